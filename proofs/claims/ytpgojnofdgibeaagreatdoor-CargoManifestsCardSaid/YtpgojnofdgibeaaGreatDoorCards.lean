/-
  DERIVED. GIVEN WITH THE SEED: THE CARDS: each row of YtpgojnofdgibeaaGreatDoorRows.lean that lists a variable, with what it lists TIED to the program's text (the seventh form; the later family's looks); each row that meets fmt, with fmt's text TOLD by the authors' own Lean function (tested against real Go, not proved from fmt's source: count such statements apart). THE CARD IS WHAT COUNTS. Prove the row's statement (the work); the ties are given (YtpgojnofdgibeaaGreatDoorTie.lean); close each card by the builder's one call (the guide's Derived/Test/ToyasCard.lean, 'card_holds'). Laid BY PROGRAM, IN A SANDBOX (cutbox-door.mjs). By AI agents, Wed Nov 11 2026. No macro, syntax, notation, axiom, sorry.
-/
import Derived.Test.YtpgojnofdgibeaaGreatDoorRows
import GoSem.ClaimSeven
namespace Go.Proofs.YtpgojnofdgibeaaGreatDoor
namespace Rows

/-- THE TIED CARD OF 'laganlaw01.CargoMarks'. -/
def cargoMarksCard : Claim7 := { stood := { row := cargoMarksRow, standIns := [], harness := (true, "48c10211fda26ba11762a65464a911479b5b1c33f41da443a08030bfa63ae023"), looks := true }, kinds := [], alts := [], laidByText := true, laidKinds := [.data, .data, .data, .data, .sentinel, .sentinel, .pinned], laidTests := true, laidLooks := .later }
def CargoMarksCardSaid : Prop := Claim7.holds Tryz.pinned (.plain (OpenSpec.ofChange cargoMarksSpec)) cargoMarksCard

/-- THE TIED CARD OF 'laganlaw01.CargoTexts'. -/
def cargoTextsCard : Claim7 := { stood := { row := cargoTextsRow, standIns := [], harness := (true, "48c10211fda26ba11762a65464a911479b5b1c33f41da443a08030bfa63ae023"), looks := true }, kinds := [], alts := [], laidByText := true, laidKinds := [.data, .data, .data, .data, .sentinel, .sentinel, .pinned], laidTests := true, laidLooks := .later }
def CargoTextsCardSaid : Prop := Claim7.holds Tryz.pinned (.plain (OpenSpec.ofChange cargoTextsSpec)) cargoTextsCard

/-- THE TIED CARD OF 'laganlaw01.CargoPapers'. -/
def cargoPapersCard : Claim7 := { stood := { row := cargoPapersRow, standIns := [], harness := (true, "48c10211fda26ba11762a65464a911479b5b1c33f41da443a08030bfa63ae023"), looks := true }, kinds := [], alts := [], laidByText := true, laidKinds := [.data, .data, .data, .data, .sentinel, .sentinel, .pinned], laidTests := true, laidLooks := .later }
def CargoPapersCardSaid : Prop := Claim7.holds Tryz.pinned (.plain (OpenSpec.ofChange cargoPapersSpec)) cargoPapersCard

/-- THE TIED CARD OF 'laganlaw01.CargoTrees'. -/
def cargoTreesCard : Claim7 := { stood := { row := cargoTreesRow, standIns := [], harness := (true, "48c10211fda26ba11762a65464a911479b5b1c33f41da443a08030bfa63ae023"), looks := true }, kinds := [], alts := [], laidByText := true, laidKinds := [.data, .data, .data, .data, .sentinel, .sentinel, .pinned], laidTests := true, laidLooks := .later }
def CargoTreesCardSaid : Prop := Claim7.holds Tryz.pinned (.plain (OpenSpec.ofChange cargoTreesSpec)) cargoTreesCard

/-- THE TIED CARD OF 'laganlaw01.CargoManifests'. -/
def cargoManifestsCard : Claim7 := { stood := { row := cargoManifestsRow, standIns := [], harness := (true, "48c10211fda26ba11762a65464a911479b5b1c33f41da443a08030bfa63ae023"), looks := true }, kinds := [], alts := [], laidByText := true, laidKinds := [.data, .data, .data, .data, .sentinel, .sentinel, .pinned], laidTests := true, laidLooks := .later }
def CargoManifestsCardSaid : Prop := Claim7.holds Tryz.pinned (.plain (OpenSpec.ofChange cargoManifestsSpec)) cargoManifestsCard

/-- THE SECOND FORM's CARD OF 'laganlaw01.CargoMarks'. -/
def cargoMarksUptoCard : Claim7 := { stood := { row := cargoMarksUptoRow, standIns := [], harness := (true, "48c10211fda26ba11762a65464a911479b5b1c33f41da443a08030bfa63ae023"), looks := true }, kinds := [], alts := [], laidByText := true, laidKinds := [.data, .data, .data, .data, .sentinel, .sentinel, .pinned], laidTests := true, laidLooks := .later }
def CargoMarksUptoCardSaid : Prop := Claim7.holds Tryz.pinned (.plain (OpenSpec.upto cargoMarksSpec)) cargoMarksUptoCard

/-- THE SECOND FORM's CARD OF 'laganlaw01.CargoTexts'. -/
def cargoTextsUptoCard : Claim7 := { stood := { row := cargoTextsUptoRow, standIns := [], harness := (true, "48c10211fda26ba11762a65464a911479b5b1c33f41da443a08030bfa63ae023"), looks := true }, kinds := [], alts := [], laidByText := true, laidKinds := [.data, .data, .data, .data, .sentinel, .sentinel, .pinned], laidTests := true, laidLooks := .later }
def CargoTextsUptoCardSaid : Prop := Claim7.holds Tryz.pinned (.plain (OpenSpec.upto cargoTextsSpec)) cargoTextsUptoCard

/-- THE SECOND FORM's CARD OF 'laganlaw01.CargoPapers'. -/
def cargoPapersUptoCard : Claim7 := { stood := { row := cargoPapersUptoRow, standIns := [], harness := (true, "48c10211fda26ba11762a65464a911479b5b1c33f41da443a08030bfa63ae023"), looks := true }, kinds := [], alts := [], laidByText := true, laidKinds := [.data, .data, .data, .data, .sentinel, .sentinel, .pinned], laidTests := true, laidLooks := .later }
def CargoPapersUptoCardSaid : Prop := Claim7.holds Tryz.pinned (.plain (OpenSpec.upto cargoPapersSpec)) cargoPapersUptoCard

/-- THE SECOND FORM's CARD OF 'laganlaw01.CargoTrees'. -/
def cargoTreesUptoCard : Claim7 := { stood := { row := cargoTreesUptoRow, standIns := [], harness := (true, "48c10211fda26ba11762a65464a911479b5b1c33f41da443a08030bfa63ae023"), looks := true }, kinds := [], alts := [], laidByText := true, laidKinds := [.data, .data, .data, .data, .sentinel, .sentinel, .pinned], laidTests := true, laidLooks := .later }
def CargoTreesUptoCardSaid : Prop := Claim7.holds Tryz.pinned (.plain (OpenSpec.upto cargoTreesSpec)) cargoTreesUptoCard

/-- THE SECOND FORM's CARD OF 'laganlaw01.CargoManifests'. -/
def cargoManifestsUptoCard : Claim7 := { stood := { row := cargoManifestsUptoRow, standIns := [], harness := (true, "48c10211fda26ba11762a65464a911479b5b1c33f41da443a08030bfa63ae023"), looks := true }, kinds := [], alts := [], laidByText := true, laidKinds := [.data, .data, .data, .data, .sentinel, .sentinel, .pinned], laidTests := true, laidLooks := .later }
def CargoManifestsUptoCardSaid : Prop := Claim7.holds Tryz.pinned (.plain (OpenSpec.upto cargoManifestsSpec)) cargoManifestsUptoCard
end Rows
end Go.Proofs.YtpgojnofdgibeaaGreatDoor
