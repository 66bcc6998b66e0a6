/-
  DERIVED. GIVEN WITH THE SEED: THE CARDS: each row of YtmghbbgnenpcaaaGreatDoorRows.lean that lists a variable, with what it lists TIED to the program's text (the seventh form; the later family's looks); each row that meets fmt, with fmt's text TOLD by the authors' own Lean function (tested against real Go, not proved from fmt's source: count such statements apart). THE CARD IS WHAT COUNTS. Prove the row's statement (the work); the ties are given (YtmghbbgnenpcaaaGreatDoorTie.lean); close each card by the builder's one call (the guide's Derived/Test/ToyasCard.lean, 'card_holds'). Laid BY PROGRAM, IN A SANDBOX (cutbox-door.mjs). By AI agents, Wed Nov 11 2026. No macro, syntax, notation, axiom, sorry.
-/
import Derived.Test.YtmghbbgnenpcaaaGreatDoorRows
import GoSem.ClaimSeven
namespace Go.Proofs.YtmghbbgnenpcaaaGreatDoor
namespace Rows

/-- THE TIED CARD OF 'laganlaw01.CargoSums'. -/
def cargoSumsCard : Claim7 := { stood := { row := cargoSumsRow, standIns := [], harness := (true, "dc11a0326e2b510150b476b7e133e669f93492a9ba30527899725929d53d6343"), looks := true }, kinds := [], alts := [], laidByText := true, laidKinds := [.data, .data, .data, .data, .sentinel, .sentinel, .pinned], laidTests := true, laidLooks := .later }
def CargoSumsCardSaid : Prop := Claim7.holds Tryz.pinned (.plain (OpenSpec.ofChange cargoSumsSpec)) cargoSumsCard

/-- THE TIED CARD OF 'laganlaw01.CargoWeights'. -/
def cargoWeightsCard : Claim7 := { stood := { row := cargoWeightsRow, standIns := [], harness := (true, "dc11a0326e2b510150b476b7e133e669f93492a9ba30527899725929d53d6343"), looks := true }, kinds := [], alts := [], laidByText := true, laidKinds := [.data, .data, .data, .data, .sentinel, .sentinel, .pinned], laidTests := true, laidLooks := .later }
def CargoWeightsCardSaid : Prop := Claim7.holds Tryz.pinned (.plain (OpenSpec.ofChange cargoWeightsSpec)) cargoWeightsCard

/-- THE TIED CARD OF 'laganlaw01.CargoOthers'. -/
def cargoOthersCard : Claim7 := { stood := { row := cargoOthersRow, standIns := [], harness := (true, "dc11a0326e2b510150b476b7e133e669f93492a9ba30527899725929d53d6343"), looks := true }, kinds := [], alts := [], laidByText := true, laidKinds := [.data, .data, .data, .data, .sentinel, .sentinel, .pinned], laidTests := true, laidLooks := .later }
def CargoOthersCardSaid : Prop := Claim7.holds Tryz.pinned (.plain (OpenSpec.ofChange cargoOthersSpec)) cargoOthersCard

/-- THE TIED CARD OF 'laganlaw01.CargoMemory'. -/
def cargoMemoryCard : Claim7 := { stood := { row := cargoMemoryRow, standIns := [], harness := (true, "dc11a0326e2b510150b476b7e133e669f93492a9ba30527899725929d53d6343"), looks := true }, kinds := [], alts := [], laidByText := true, laidKinds := [.data, .data, .data, .data, .sentinel, .sentinel, .pinned], laidTests := true, laidLooks := .later }
def CargoMemoryCardSaid : Prop := Claim7.holds Tryz.pinned (.plain (OpenSpec.ofChange cargoMemorySpec)) cargoMemoryCard

/-- THE TIED CARD OF 'laganlaw01.CargoDoubts'. -/
def cargoDoubtsCard : Claim7 := { stood := { row := cargoDoubtsRow, standIns := [], harness := (true, "dc11a0326e2b510150b476b7e133e669f93492a9ba30527899725929d53d6343"), looks := true }, kinds := [], alts := [], laidByText := true, laidKinds := [.data, .data, .data, .data, .sentinel, .sentinel, .pinned], laidTests := true, laidLooks := .later }
def CargoDoubtsCardSaid : Prop := Claim7.holds Tryz.pinned (.plain (OpenSpec.ofChange cargoDoubtsSpec)) cargoDoubtsCard

/-- THE TIED CARD OF 'laganlaw01.CargoLineages'. -/
def cargoLineagesCard : Claim7 := { stood := { row := cargoLineagesRow, standIns := [], harness := (true, "dc11a0326e2b510150b476b7e133e669f93492a9ba30527899725929d53d6343"), looks := true }, kinds := [], alts := [], laidByText := true, laidKinds := [.data, .data, .data, .data, .sentinel, .sentinel, .pinned], laidTests := true, laidLooks := .later }
def CargoLineagesCardSaid : Prop := Claim7.holds Tryz.pinned (.plain (OpenSpec.ofChange cargoLineagesSpec)) cargoLineagesCard

/-- THE TIED CARD OF 'laganlaw01.CargoRests'. -/
def cargoRestsCard : Claim7 := { stood := { row := cargoRestsRow, standIns := [], harness := (true, "dc11a0326e2b510150b476b7e133e669f93492a9ba30527899725929d53d6343"), looks := true }, kinds := [], alts := [], laidByText := true, laidKinds := [.data, .data, .data, .data, .sentinel, .sentinel, .pinned], laidTests := true, laidLooks := .later }
def CargoRestsCardSaid : Prop := Claim7.holds Tryz.pinned (.plain (OpenSpec.ofChange cargoRestsSpec)) cargoRestsCard

/-- THE TIED CARD OF 'laganlaw01.CargoReached'. -/
def cargoReachedCard : Claim7 := { stood := { row := cargoReachedRow, standIns := [], harness := (true, "dc11a0326e2b510150b476b7e133e669f93492a9ba30527899725929d53d6343"), looks := true }, kinds := [], alts := [], laidByText := true, laidKinds := [.data, .data, .data, .data, .sentinel, .sentinel, .pinned], laidTests := true, laidLooks := .later }
def CargoReachedCardSaid : Prop := Claim7.holds Tryz.pinned (.plain (OpenSpec.ofChange cargoReachedSpec)) cargoReachedCard

/-- THE SECOND FORM's CARD OF 'laganlaw01.CargoSums'. -/
def cargoSumsUptoCard : Claim7 := { stood := { row := cargoSumsUptoRow, standIns := [], harness := (true, "dc11a0326e2b510150b476b7e133e669f93492a9ba30527899725929d53d6343"), looks := true }, kinds := [], alts := [], laidByText := true, laidKinds := [.data, .data, .data, .data, .sentinel, .sentinel, .pinned], laidTests := true, laidLooks := .later }
def CargoSumsUptoCardSaid : Prop := Claim7.holds Tryz.pinned (.plain (OpenSpec.upto cargoSumsSpec)) cargoSumsUptoCard

/-- THE SECOND FORM's CARD OF 'laganlaw01.CargoWeights'. -/
def cargoWeightsUptoCard : Claim7 := { stood := { row := cargoWeightsUptoRow, standIns := [], harness := (true, "dc11a0326e2b510150b476b7e133e669f93492a9ba30527899725929d53d6343"), looks := true }, kinds := [], alts := [], laidByText := true, laidKinds := [.data, .data, .data, .data, .sentinel, .sentinel, .pinned], laidTests := true, laidLooks := .later }
def CargoWeightsUptoCardSaid : Prop := Claim7.holds Tryz.pinned (.plain (OpenSpec.upto cargoWeightsSpec)) cargoWeightsUptoCard

/-- THE SECOND FORM's CARD OF 'laganlaw01.CargoOthers'. -/
def cargoOthersUptoCard : Claim7 := { stood := { row := cargoOthersUptoRow, standIns := [], harness := (true, "dc11a0326e2b510150b476b7e133e669f93492a9ba30527899725929d53d6343"), looks := true }, kinds := [], alts := [], laidByText := true, laidKinds := [.data, .data, .data, .data, .sentinel, .sentinel, .pinned], laidTests := true, laidLooks := .later }
def CargoOthersUptoCardSaid : Prop := Claim7.holds Tryz.pinned (.plain (OpenSpec.upto cargoOthersSpec)) cargoOthersUptoCard

/-- THE SECOND FORM's CARD OF 'laganlaw01.CargoMemory'. -/
def cargoMemoryUptoCard : Claim7 := { stood := { row := cargoMemoryUptoRow, standIns := [], harness := (true, "dc11a0326e2b510150b476b7e133e669f93492a9ba30527899725929d53d6343"), looks := true }, kinds := [], alts := [], laidByText := true, laidKinds := [.data, .data, .data, .data, .sentinel, .sentinel, .pinned], laidTests := true, laidLooks := .later }
def CargoMemoryUptoCardSaid : Prop := Claim7.holds Tryz.pinned (.plain (OpenSpec.upto cargoMemorySpec)) cargoMemoryUptoCard

/-- THE SECOND FORM's CARD OF 'laganlaw01.CargoDoubts'. -/
def cargoDoubtsUptoCard : Claim7 := { stood := { row := cargoDoubtsUptoRow, standIns := [], harness := (true, "dc11a0326e2b510150b476b7e133e669f93492a9ba30527899725929d53d6343"), looks := true }, kinds := [], alts := [], laidByText := true, laidKinds := [.data, .data, .data, .data, .sentinel, .sentinel, .pinned], laidTests := true, laidLooks := .later }
def CargoDoubtsUptoCardSaid : Prop := Claim7.holds Tryz.pinned (.plain (OpenSpec.upto cargoDoubtsSpec)) cargoDoubtsUptoCard

/-- THE SECOND FORM's CARD OF 'laganlaw01.CargoLineages'. -/
def cargoLineagesUptoCard : Claim7 := { stood := { row := cargoLineagesUptoRow, standIns := [], harness := (true, "dc11a0326e2b510150b476b7e133e669f93492a9ba30527899725929d53d6343"), looks := true }, kinds := [], alts := [], laidByText := true, laidKinds := [.data, .data, .data, .data, .sentinel, .sentinel, .pinned], laidTests := true, laidLooks := .later }
def CargoLineagesUptoCardSaid : Prop := Claim7.holds Tryz.pinned (.plain (OpenSpec.upto cargoLineagesSpec)) cargoLineagesUptoCard

/-- THE SECOND FORM's CARD OF 'laganlaw01.CargoRests'. -/
def cargoRestsUptoCard : Claim7 := { stood := { row := cargoRestsUptoRow, standIns := [], harness := (true, "dc11a0326e2b510150b476b7e133e669f93492a9ba30527899725929d53d6343"), looks := true }, kinds := [], alts := [], laidByText := true, laidKinds := [.data, .data, .data, .data, .sentinel, .sentinel, .pinned], laidTests := true, laidLooks := .later }
def CargoRestsUptoCardSaid : Prop := Claim7.holds Tryz.pinned (.plain (OpenSpec.upto cargoRestsSpec)) cargoRestsUptoCard

/-- THE SECOND FORM's CARD OF 'laganlaw01.CargoReached'. -/
def cargoReachedUptoCard : Claim7 := { stood := { row := cargoReachedUptoRow, standIns := [], harness := (true, "dc11a0326e2b510150b476b7e133e669f93492a9ba30527899725929d53d6343"), looks := true }, kinds := [], alts := [], laidByText := true, laidKinds := [.data, .data, .data, .data, .sentinel, .sentinel, .pinned], laidTests := true, laidLooks := .later }
def CargoReachedUptoCardSaid : Prop := Claim7.holds Tryz.pinned (.plain (OpenSpec.upto cargoReachedSpec)) cargoReachedUptoCard
end Rows
end Go.Proofs.YtmghbbgnenpcaaaGreatDoor
