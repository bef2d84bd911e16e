/- DERIVED. GIVEN WITH THE SEED: THE CARDS: each row of YtkcpbjoolfojjaaGreatDoorRows.lean that lists a variable, with what it lists TIED to the program's text (the seventh form; the later family's looks); each row that meets fmt, with fmt's text TOLD by the authors' own Lean function (tested against real Go, not proved from fmt's source: count such statements apart). THE CARD IS WHAT COUNTS. Prove the row's statement (the work); the ties are given (YtkcpbjoolfojjaaGreatDoorTie.lean); close each card by the builder's one call (the guide's Derived/Test/ToyasCard.lean, 'card_holds'). Laid BY PROGRAM, IN A SANDBOX (cutbox-door.mjs). By AI agents, Wed Nov 11 2026. No macro, syntax, notation, axiom, sorry. -/
import Derived.Test.YtkcpbjoolfojjaaGreatDoorRows
import GoSem.ClaimSeven
namespace Go.Proofs.YtkcpbjoolfojjaaGreatDoor
namespace Rows

/-- THE TIED CARD OF 'gazetteerlaw1.DataRounds'. -/
def dataRoundsCard : Claim7 := { stood := { row := dataRoundsRow, standIns := [], harness := (true, "876f7f3346ccae630e65f96bd87468569c4c73ad5f6b1202403853b2ea6500e0"), looks := true }, kinds := [], alts := [], laidByText := true, laidKinds := [.data, .data, .data, .data, .pinned, .pinned], laidTests := true, laidLooks := .later }
def DataRoundsCardSaid : Prop := Claim7.holds Tryz.pinned (.plain (OpenSpec.ofChange dataRoundsSpec)) dataRoundsCard

end Rows
end Go.Proofs.YtkcpbjoolfojjaaGreatDoor
