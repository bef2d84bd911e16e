/- DERIVED. GIVEN WITH THE SEED: THE CARDS: each row of YtjejmgdpjfdhjaaGreatDoorRows.lean that lists a variable, with what it lists TIED to the program's text (the seventh form; the later family's looks); each row that meets fmt, with fmt's text TOLD by the authors' own Lean function (tested against real Go, not proved from fmt's source: count such statements apart). THE CARD IS WHAT COUNTS. Prove the row's statement (the work); the ties are given (YtjejmgdpjfdhjaaGreatDoorTie.lean); close each card by the builder's one call (the guide's Derived/Test/ToyasCard.lean, 'card_holds'). Laid BY PROGRAM, IN A SANDBOX (cutbox-door.mjs). By AI agents, Wed Nov 11 2026. No macro, syntax, notation, axiom, sorry. -/
import Derived.Test.YtjejmgdpjfdhjaaGreatDoorRows
import GoSem.ClaimSeven
namespace Go.Proofs.YtjejmgdpjfdhjaaGreatDoor
namespace Rows

/-- THE TIED CARD OF 'gazetteerlaw1.DataShows'. -/
def dataShowsCard : Claim7 := { stood := { row := dataShowsRow, standIns := [], harness := (true, "3de017f926c2efefc35201b83a9e83120ad0da042f162b02058027ae7a1347ec"), looks := false }, kinds := [], alts := [], laidByText := true, laidKinds := [.data, .data, .data], laidTests := true, laidLooks := .later }
def DataShowsCardSaid : Prop := Claim7.holds Tryz.pinned (.plain (OpenSpec.ofChange dataShowsSpec)) dataShowsCard

/-- THE TIED CARD OF 'gazetteerlaw2.MasterPrints'. -/
def masterPrintsCard : Claim7 := { stood := { row := masterPrintsRow, standIns := [], harness := (true, "3de017f926c2efefc35201b83a9e83120ad0da042f162b02058027ae7a1347ec"), looks := false }, kinds := [], alts := [], laidByText := true, laidKinds := [.data, .data, .data], laidTests := true, laidLooks := .later }
def MasterPrintsCardSaid : Prop := Claim7.holds Tryz.pinned (.plain (OpenSpec.ofChange masterPrintsSpec)) masterPrintsCard

/-- THE SECOND FORM's CARD OF 'gazetteerlaw1.DataShows'. -/
def dataShowsUptoCard : Claim7 := { stood := { row := dataShowsUptoRow, standIns := [], harness := (true, "3de017f926c2efefc35201b83a9e83120ad0da042f162b02058027ae7a1347ec"), looks := false }, kinds := [], alts := [], laidByText := true, laidKinds := [.data, .data, .data], laidTests := true, laidLooks := .later }
def DataShowsUptoCardSaid : Prop := Claim7.holds Tryz.pinned (.plain (OpenSpec.upto dataShowsSpec)) dataShowsUptoCard

/-- THE SECOND FORM's CARD OF 'gazetteerlaw2.MasterPrints'. -/
def masterPrintsUptoCard : Claim7 := { stood := { row := masterPrintsUptoRow, standIns := [], harness := (true, "3de017f926c2efefc35201b83a9e83120ad0da042f162b02058027ae7a1347ec"), looks := false }, kinds := [], alts := [], laidByText := true, laidKinds := [.data, .data, .data], laidTests := true, laidLooks := .later }
def MasterPrintsUptoCardSaid : Prop := Claim7.holds Tryz.pinned (.plain (OpenSpec.upto masterPrintsSpec)) masterPrintsUptoCard
end Rows
end Go.Proofs.YtjejmgdpjfdhjaaGreatDoor
