/- name.Compare: walk. -/
import Derived.Test.YtkcpbjoolfojjaaGreatDoorP4
import Derived.Test.YtkcpbjoolfojjaaGreatDoorShelf
import Derived.Lib.Bytealg
import Derived.Deep.QuietTactic
import Derived.BigQuiet
import Derived.Deep.RegionHeld3
namespace Go.Proofs.YtkcpbjoolfojjaaGreatDoor.ncmp
open Go.RowKit Go.Proofs.YtkcpbjoolfojjaaGreatDoor.kit Go.Proofs.YtkcpbjoolfojjaaGreatDoor.check Go.Proofs.YtkcpbjoolfojjaaGreatDoor.nspec Go.Proofs.YtkcpbjoolfojjaaGreatDoor.rsplit Go.Proofs.YtkcpbjoolfojjaaGreatDoor.low Go.Proofs.YtkcpbjoolfojjaaGreatDoor.refA Go.Proofs.YtkcpbjoolfojjaaGreatDoor.nameA Go.Proofs.YtkcpbjoolfojjaaGreatDoor.nameB Go.Proofs.YtkcpbjoolfojjaaGreatDoor.nameL

end Go.Proofs.YtkcpbjoolfojjaaGreatDoor.ncmp
