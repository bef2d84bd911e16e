/-
  DERIVED. GIVEN WITH THE SEED: THE CARDS: each row of YtjejmgdpjfdhjaaDoorRows.lean that lists a variable, with what it lists TIED to the program's text (the seventh form; the later family's looks); each row that meets fmt, with fmt's text TOLD by the authors' own Lean function (tested against real Go, not proved from fmt's source: count such statements apart). THE CARD IS WHAT COUNTS. Prove the row's statement (the work); the ties are given (YtjejmgdpjfdhjaaDoorTie.lean); close each card by the builder's one call (the guide's Derived/Test/ToyasCard.lean, 'card_holds'). Laid BY PROGRAM, IN A SANDBOX (cutbox-door.mjs). By AI agents, Wed Nov 11 2026. No macro, syntax, notation, axiom, sorry.
-/
import Derived.Test.YtjejmgdpjfdhjaaDoorRows
import GoSem.ClaimSeven
namespace Go.Proofs.YtjejmgdpjfdhjaaDoor
namespace Rows

/-- THE TIED CARD OF 'gazetteerlaw1.DataTypes'. -/
def dataTypesCard : Claim7 := { stood := { row := dataTypesRow, standIns := [], harness := (true, "bf6ed89e1fe14139fb06c93c3a74a0a8e170ad4bc98905dd013ac65359301676"), looks := false }, kinds := [], alts := [], laidByText := true, laidKinds := [.data, .data, .data, .data, .pinned, .pinned], laidTests := true, laidLooks := .later }
def DataTypesCardSaid : Prop := Claim7.holds Tryd.pinned (.plain (OpenSpec.ofChange dataTypesSpec)) dataTypesCard

/-- THE SECOND FORM's CARD OF 'gazetteerlaw1.DataTypes'. -/
def dataTypesUptoCard : Claim7 := { stood := { row := dataTypesUptoRow, standIns := [], harness := (true, "bf6ed89e1fe14139fb06c93c3a74a0a8e170ad4bc98905dd013ac65359301676"), looks := false }, kinds := [], alts := [], laidByText := true, laidKinds := [.data, .data, .data, .data, .pinned, .pinned], laidTests := true, laidLooks := .later }
def DataTypesUptoCardSaid : Prop := Claim7.holds Tryd.pinned (.plain (OpenSpec.upto dataTypesSpec)) dataTypesUptoCard
end Rows
end Go.Proofs.YtjejmgdpjfdhjaaDoor
