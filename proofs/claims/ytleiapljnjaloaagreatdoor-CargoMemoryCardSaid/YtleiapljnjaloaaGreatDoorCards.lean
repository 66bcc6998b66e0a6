/-
  DERIVED. GIVEN WITH THE SEED: THE CARDS: each row of YtleiapljnjaloaaGreatDoorRows.lean that lists a variable, with what it lists TIED to the program's text (the seventh form; the later family's looks); each row that meets fmt, with fmt's text TOLD by the authors' own Lean function (tested against real Go, not proved from fmt's source: count such statements apart). THE CARD IS WHAT COUNTS. Prove the row's statement (the work); the ties are given (YtleiapljnjaloaaGreatDoorTie.lean); close each card by the builder's one call (the guide's Derived/Test/ToyasCard.lean, 'card_holds'). Laid BY PROGRAM, IN A SANDBOX (cutbox-door.mjs). By AI agents, Wed Nov 11 2026. No macro, syntax, notation, axiom, sorry.
-/
import Derived.Test.YtleiapljnjaloaaGreatDoorRows
import GoSem.ClaimSeven
namespace Go.Proofs.YtleiapljnjaloaaGreatDoor
namespace Rows

/-- THE TIED CARD OF 'laganlaw01.CargoMemory'. -/
def cargoMemoryCard : Claim7 := { stood := { row := cargoMemoryRow, standIns := [], harness := (true, "bc5588356f513c404f9bbbace30a17e1143176b7e06934e74b1887ff9d2178f4"), looks := true }, kinds := [], alts := [], laidByText := true, laidKinds := [.data, .data, .data, .data, .sentinel, .sentinel, .pinned], laidTests := true, laidLooks := .later }
def CargoMemoryCardSaid : Prop := Claim7.holds Tryz.pinned (.plain (OpenSpec.ofChange cargoMemorySpec)) cargoMemoryCard

/-- THE TIED CARD OF 'laganlaw01.CargoDoubts'. -/
def cargoDoubtsCard : Claim7 := { stood := { row := cargoDoubtsRow, standIns := [], harness := (true, "bc5588356f513c404f9bbbace30a17e1143176b7e06934e74b1887ff9d2178f4"), looks := true }, kinds := [], alts := [], laidByText := true, laidKinds := [.data, .data, .data, .data, .sentinel, .sentinel, .pinned], laidTests := true, laidLooks := .later }
def CargoDoubtsCardSaid : Prop := Claim7.holds Tryz.pinned (.plain (OpenSpec.ofChange cargoDoubtsSpec)) cargoDoubtsCard

/-- THE TIED CARD OF 'laganlaw01.CargoLineages'. -/
def cargoLineagesCard : Claim7 := { stood := { row := cargoLineagesRow, standIns := [], harness := (true, "bc5588356f513c404f9bbbace30a17e1143176b7e06934e74b1887ff9d2178f4"), looks := true }, kinds := [], alts := [], laidByText := true, laidKinds := [.data, .data, .data, .data, .sentinel, .sentinel, .pinned], laidTests := true, laidLooks := .later }
def CargoLineagesCardSaid : Prop := Claim7.holds Tryz.pinned (.plain (OpenSpec.ofChange cargoLineagesSpec)) cargoLineagesCard

/-- THE TIED CARD OF 'laganlaw01.CargoRests'. -/
def cargoRestsCard : Claim7 := { stood := { row := cargoRestsRow, standIns := [], harness := (true, "bc5588356f513c404f9bbbace30a17e1143176b7e06934e74b1887ff9d2178f4"), looks := true }, kinds := [], alts := [], laidByText := true, laidKinds := [.data, .data, .data, .data, .sentinel, .sentinel, .pinned], laidTests := true, laidLooks := .later }
def CargoRestsCardSaid : Prop := Claim7.holds Tryz.pinned (.plain (OpenSpec.ofChange cargoRestsSpec)) cargoRestsCard

/-- THE TIED CARD OF 'laganlaw01.CargoNarrows'. -/
def cargoNarrowsCard : Claim7 := { stood := { row := cargoNarrowsRow, standIns := [], harness := (true, "bc5588356f513c404f9bbbace30a17e1143176b7e06934e74b1887ff9d2178f4"), looks := true }, kinds := [], alts := [], laidByText := true, laidKinds := [.data, .data, .data, .data, .sentinel, .sentinel, .pinned], laidTests := true, laidLooks := .later }
def CargoNarrowsCardSaid : Prop := Claim7.holds Tryz.pinned (.plain (OpenSpec.ofChange cargoNarrowsSpec)) cargoNarrowsCard

/-- THE TIED CARD OF 'laganlaw01.CargoEither'. -/
def cargoEitherCard : Claim7 := { stood := { row := cargoEitherRow, standIns := [], harness := (true, "bc5588356f513c404f9bbbace30a17e1143176b7e06934e74b1887ff9d2178f4"), looks := true }, kinds := [], alts := [], laidByText := true, laidKinds := [.data, .data, .data, .data, .sentinel, .sentinel, .pinned], laidTests := true, laidLooks := .later }
def CargoEitherCardSaid : Prop := Claim7.holds Tryz.pinned (.plain (OpenSpec.ofChange cargoEitherSpec)) cargoEitherCard

/-- THE TIED CARD OF 'laganlaw01.CargoCompletions'. -/
def cargoCompletionsCard : Claim7 := { stood := { row := cargoCompletionsRow, standIns := [], harness := (true, "bc5588356f513c404f9bbbace30a17e1143176b7e06934e74b1887ff9d2178f4"), looks := true }, kinds := [], alts := [], laidByText := true, laidKinds := [.data, .data, .data, .data, .sentinel, .sentinel, .pinned], laidTests := true, laidLooks := .later }
def CargoCompletionsCardSaid : Prop := Claim7.holds Tryz.pinned (.plain (OpenSpec.ofChange cargoCompletionsSpec)) cargoCompletionsCard

/-- THE TIED CARD OF 'laganlaw01.CargoSharp'. -/
def cargoSharpCard : Claim7 := { stood := { row := cargoSharpRow, standIns := [], harness := (true, "bc5588356f513c404f9bbbace30a17e1143176b7e06934e74b1887ff9d2178f4"), looks := true }, kinds := [], alts := [], laidByText := true, laidKinds := [.data, .data, .data, .data, .sentinel, .sentinel, .pinned], laidTests := true, laidLooks := .later }
def CargoSharpCardSaid : Prop := Claim7.holds Tryz.pinned (.plain (OpenSpec.ofChange cargoSharpSpec)) cargoSharpCard

/-- THE SECOND FORM's CARD OF 'laganlaw01.CargoMemory'. -/
def cargoMemoryUptoCard : Claim7 := { stood := { row := cargoMemoryUptoRow, standIns := [], harness := (true, "bc5588356f513c404f9bbbace30a17e1143176b7e06934e74b1887ff9d2178f4"), looks := true }, kinds := [], alts := [], laidByText := true, laidKinds := [.data, .data, .data, .data, .sentinel, .sentinel, .pinned], laidTests := true, laidLooks := .later }
def CargoMemoryUptoCardSaid : Prop := Claim7.holds Tryz.pinned (.plain (OpenSpec.upto cargoMemorySpec)) cargoMemoryUptoCard

/-- THE SECOND FORM's CARD OF 'laganlaw01.CargoDoubts'. -/
def cargoDoubtsUptoCard : Claim7 := { stood := { row := cargoDoubtsUptoRow, standIns := [], harness := (true, "bc5588356f513c404f9bbbace30a17e1143176b7e06934e74b1887ff9d2178f4"), looks := true }, kinds := [], alts := [], laidByText := true, laidKinds := [.data, .data, .data, .data, .sentinel, .sentinel, .pinned], laidTests := true, laidLooks := .later }
def CargoDoubtsUptoCardSaid : Prop := Claim7.holds Tryz.pinned (.plain (OpenSpec.upto cargoDoubtsSpec)) cargoDoubtsUptoCard

/-- THE SECOND FORM's CARD OF 'laganlaw01.CargoLineages'. -/
def cargoLineagesUptoCard : Claim7 := { stood := { row := cargoLineagesUptoRow, standIns := [], harness := (true, "bc5588356f513c404f9bbbace30a17e1143176b7e06934e74b1887ff9d2178f4"), looks := true }, kinds := [], alts := [], laidByText := true, laidKinds := [.data, .data, .data, .data, .sentinel, .sentinel, .pinned], laidTests := true, laidLooks := .later }
def CargoLineagesUptoCardSaid : Prop := Claim7.holds Tryz.pinned (.plain (OpenSpec.upto cargoLineagesSpec)) cargoLineagesUptoCard

/-- THE SECOND FORM's CARD OF 'laganlaw01.CargoRests'. -/
def cargoRestsUptoCard : Claim7 := { stood := { row := cargoRestsUptoRow, standIns := [], harness := (true, "bc5588356f513c404f9bbbace30a17e1143176b7e06934e74b1887ff9d2178f4"), looks := true }, kinds := [], alts := [], laidByText := true, laidKinds := [.data, .data, .data, .data, .sentinel, .sentinel, .pinned], laidTests := true, laidLooks := .later }
def CargoRestsUptoCardSaid : Prop := Claim7.holds Tryz.pinned (.plain (OpenSpec.upto cargoRestsSpec)) cargoRestsUptoCard

/-- THE SECOND FORM's CARD OF 'laganlaw01.CargoNarrows'. -/
def cargoNarrowsUptoCard : Claim7 := { stood := { row := cargoNarrowsUptoRow, standIns := [], harness := (true, "bc5588356f513c404f9bbbace30a17e1143176b7e06934e74b1887ff9d2178f4"), looks := true }, kinds := [], alts := [], laidByText := true, laidKinds := [.data, .data, .data, .data, .sentinel, .sentinel, .pinned], laidTests := true, laidLooks := .later }
def CargoNarrowsUptoCardSaid : Prop := Claim7.holds Tryz.pinned (.plain (OpenSpec.upto cargoNarrowsSpec)) cargoNarrowsUptoCard

/-- THE SECOND FORM's CARD OF 'laganlaw01.CargoEither'. -/
def cargoEitherUptoCard : Claim7 := { stood := { row := cargoEitherUptoRow, standIns := [], harness := (true, "bc5588356f513c404f9bbbace30a17e1143176b7e06934e74b1887ff9d2178f4"), looks := true }, kinds := [], alts := [], laidByText := true, laidKinds := [.data, .data, .data, .data, .sentinel, .sentinel, .pinned], laidTests := true, laidLooks := .later }
def CargoEitherUptoCardSaid : Prop := Claim7.holds Tryz.pinned (.plain (OpenSpec.upto cargoEitherSpec)) cargoEitherUptoCard

/-- THE SECOND FORM's CARD OF 'laganlaw01.CargoCompletions'. -/
def cargoCompletionsUptoCard : Claim7 := { stood := { row := cargoCompletionsUptoRow, standIns := [], harness := (true, "bc5588356f513c404f9bbbace30a17e1143176b7e06934e74b1887ff9d2178f4"), looks := true }, kinds := [], alts := [], laidByText := true, laidKinds := [.data, .data, .data, .data, .sentinel, .sentinel, .pinned], laidTests := true, laidLooks := .later }
def CargoCompletionsUptoCardSaid : Prop := Claim7.holds Tryz.pinned (.plain (OpenSpec.upto cargoCompletionsSpec)) cargoCompletionsUptoCard

/-- THE SECOND FORM's CARD OF 'laganlaw01.CargoSharp'. -/
def cargoSharpUptoCard : Claim7 := { stood := { row := cargoSharpUptoRow, standIns := [], harness := (true, "bc5588356f513c404f9bbbace30a17e1143176b7e06934e74b1887ff9d2178f4"), looks := true }, kinds := [], alts := [], laidByText := true, laidKinds := [.data, .data, .data, .data, .sentinel, .sentinel, .pinned], laidTests := true, laidLooks := .later }
def CargoSharpUptoCardSaid : Prop := Claim7.holds Tryz.pinned (.plain (OpenSpec.upto cargoSharpSpec)) cargoSharpUptoCard
end Rows
end Go.Proofs.YtleiapljnjaloaaGreatDoor
