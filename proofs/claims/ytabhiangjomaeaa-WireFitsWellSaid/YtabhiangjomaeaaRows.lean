/-
  No cell of these rows narrows 'for every input' (looked for: loops, veiled, ifaces, maps, wideKeys, modest, calm, conditions, laid).
  DERIVED. THE GIVEN ROWS OF THIS SEAT. 10 by the template 'for every input the law returns true; each argument reads behind the call as it read before'; 0 by the template 'total and deterministic' (their statements: YtabhiangjomaeaaTotals.lean).
  GIVEN WITH THE SEED: the statements are not yours to turn. If you find one false, say at which input.
  Laid BY PROGRAM, IN A SANDBOX (cutbox-rows.mjs): the forced cells as the released guide's own fill.sh prints them over the translation 131773374f30a693… (all of the seat's roots in one cut). By AI agents, Wed Nov 11 2026. No macro, syntax, notation, axiom, sorry.
-/
import Derived.Test.YtabhiangjomaeaaChecked
import GoSem.Claim
import GoSem.ClaimJoined
import GoSem.ClaimMapViews
import Derived.JoinedTies
import Derived.KernelRfl
namespace Go.Proofs.Ytabhiangjomaeaa
/- THE CELL 'sum', in the pinned program and in every row, IS THE sha256 OF THE DUMP (.gsa) THAT YtabhiangjomaeaaProg.lean LOADS. Nothing in Lean hashes anything: it is a label: what it is worth is what the hold of that sum in a sandbox is worth. -/
noncomputable def Try.pinned : Pinned := { name := "ytabhiangjomaeaa", sum := "131773374f30a69320b66f4949f23a69632dd7d09d0372e0416ddc60c770a157", checked := Try.checked }
namespace Rows
def none {H : Type} : Left H := { results := [], args := [] }

/-- 'gazetteerlaw4.SignerPlans': WHATEVER THE INPUT: true; the input reads as it did. -/
def signerPlansSpec : ChangeSpec := { name := "signerPlans", fn := fun _ => fun
  | [d1, d2, d3] => { results := [.lit (.bool true)], args := [d1, d2, d3] }
  | _ => none }
def signerPlansRow : OpenClaim := { program := "ytabhiangjomaeaa", sum := "131773374f30a69320b66f4949f23a69632dd7d09d0372e0416ddc60c770a157", func := "gazetteer/gazetteerlaw4.SignerPlans", spec := "signerPlans", apart := false }
def SignerPlansSaid : Prop := signerPlansRow.holds Try.pinned (OpenSpec.ofChange signerPlansSpec)

/-- ITS FALSE NEIGHBOUR: 'it returns false'. Refute it at one input. -/
def signerPlansWrong : ChangeSpec := { name := "signerPlans", fn := fun _ => fun
  | [d1, d2, d3] => { results := [.lit (.bool false)], args := [d1, d2, d3] }
  | _ => none }
def SignerPlansWrongFalsely : Prop := signerPlansRow.holds Try.pinned (OpenSpec.ofChange signerPlansWrong)

/-- 'gazetteerlaw2.WirePacks': WHATEVER THE INPUT: true; the input reads as it did. -/
def wirePacksSpec : ChangeSpec := { name := "wirePacks", fn := fun _ => fun
  | [d] => { results := [.lit (.bool true)], args := [d] }
  | _ => none }
def wirePacksRow : OpenClaim := { program := "ytabhiangjomaeaa", sum := "131773374f30a69320b66f4949f23a69632dd7d09d0372e0416ddc60c770a157", func := "gazetteer/gazetteerlaw2.WirePacks", spec := "wirePacks", unfollowed := true, recurses := true, apart := false }
def WirePacksSaid : Prop := wirePacksRow.holds Try.pinned (OpenSpec.ofChange wirePacksSpec)

/-- ITS FALSE NEIGHBOUR: 'it returns false'. Refute it at one input. -/
def wirePacksWrong : ChangeSpec := { name := "wirePacks", fn := fun _ => fun
  | [d] => { results := [.lit (.bool false)], args := [d] }
  | _ => none }
def WirePacksWrongFalsely : Prop := wirePacksRow.holds Try.pinned (OpenSpec.ofChange wirePacksWrong)

/-- 'gazetteerlaw2.WireShort': WHATEVER THE INPUT: true; the input reads as it did. -/
def wireShortSpec : ChangeSpec := { name := "wireShort", fn := fun _ => fun
  | [d1, d2] => { results := [.lit (.bool true)], args := [d1, d2] }
  | _ => none }
def wireShortRow : OpenClaim := { program := "ytabhiangjomaeaa", sum := "131773374f30a69320b66f4949f23a69632dd7d09d0372e0416ddc60c770a157", func := "gazetteer/gazetteerlaw2.WireShort", spec := "wireShort", unfollowed := true, recurses := true, apart := false }
def WireShortSaid : Prop := wireShortRow.holds Try.pinned (OpenSpec.ofChange wireShortSpec)

/-- ITS FALSE NEIGHBOUR: 'it returns false'. Refute it at one input. -/
def wireShortWrong : ChangeSpec := { name := "wireShort", fn := fun _ => fun
  | [d1, d2] => { results := [.lit (.bool false)], args := [d1, d2] }
  | _ => none }
def WireShortWrongFalsely : Prop := wireShortRow.holds Try.pinned (OpenSpec.ofChange wireShortWrong)

/-- 'gazetteerlaw2.WireUnpacks': WHATEVER THE INPUT: true; the input reads as it did. -/
def wireUnpacksSpec : ChangeSpec := { name := "wireUnpacks", fn := fun _ => fun
  | [d] => { results := [.lit (.bool true)], args := [d] }
  | _ => none }
def wireUnpacksRow : OpenClaim := { program := "ytabhiangjomaeaa", sum := "131773374f30a69320b66f4949f23a69632dd7d09d0372e0416ddc60c770a157", func := "gazetteer/gazetteerlaw2.WireUnpacks", spec := "wireUnpacks", unfollowed := true, recurses := true, apart := false }
def WireUnpacksSaid : Prop := wireUnpacksRow.holds Try.pinned (OpenSpec.ofChange wireUnpacksSpec)

/-- ITS FALSE NEIGHBOUR: 'it returns false'. Refute it at one input. -/
def wireUnpacksWrong : ChangeSpec := { name := "wireUnpacks", fn := fun _ => fun
  | [d] => { results := [.lit (.bool false)], args := [d] }
  | _ => none }
def WireUnpacksWrongFalsely : Prop := wireUnpacksRow.holds Try.pinned (OpenSpec.ofChange wireUnpacksWrong)

/-- 'gazetteerlaw2.WireFitsWell': WHATEVER THE INPUT: true; the input reads as it did. -/
def wireFitsWellSpec : ChangeSpec := { name := "wireFitsWell", fn := fun _ => fun
  | [d1, d2] => { results := [.lit (.bool true)], args := [d1, d2] }
  | _ => none }
def wireFitsWellRow : OpenClaim := { program := "ytabhiangjomaeaa", sum := "131773374f30a69320b66f4949f23a69632dd7d09d0372e0416ddc60c770a157", func := "gazetteer/gazetteerlaw2.WireFitsWell", spec := "wireFitsWell", unfollowed := true, recurses := true, apart := false }
def WireFitsWellSaid : Prop := wireFitsWellRow.holds Try.pinned (OpenSpec.ofChange wireFitsWellSpec)

/-- ITS FALSE NEIGHBOUR: 'it returns false'. Refute it at one input. -/
def wireFitsWellWrong : ChangeSpec := { name := "wireFitsWell", fn := fun _ => fun
  | [d1, d2] => { results := [.lit (.bool false)], args := [d1, d2] }
  | _ => none }
def WireFitsWellWrongFalsely : Prop := wireFitsWellRow.holds Try.pinned (OpenSpec.ofChange wireFitsWellWrong)

/-- 'gazetteerlaw1.DataSets': WHATEVER THE INPUT: true; the input reads as it did. -/
def dataSetsSpec : ChangeSpec := { name := "dataSets", fn := fun _ => fun
  | [d1, d2] => { results := [.lit (.bool true)], args := [d1, d2] }
  | _ => none }
def dataSetsRow : OpenClaim := { program := "ytabhiangjomaeaa", sum := "131773374f30a69320b66f4949f23a69632dd7d09d0372e0416ddc60c770a157", func := "gazetteer/gazetteerlaw1.DataSets", spec := "dataSets", recurses := true, apart := false }
def DataSetsSaid : Prop := dataSetsRow.holds Try.pinned (OpenSpec.ofChange dataSetsSpec)

/-- ITS FALSE NEIGHBOUR: 'it returns false'. Refute it at one input. -/
def dataSetsWrong : ChangeSpec := { name := "dataSets", fn := fun _ => fun
  | [d1, d2] => { results := [.lit (.bool false)], args := [d1, d2] }
  | _ => none }
def DataSetsWrongFalsely : Prop := dataSetsRow.holds Try.pinned (OpenSpec.ofChange dataSetsWrong)

/-- 'gazetteerlaw4.SignerSafe': WHATEVER THE INPUT: true; the input reads as it did. -/
def signerSafeSpec : ChangeSpec := { name := "signerSafe", fn := fun _ => fun
  | [d1, d2, d3, d4, d5, d6, d7] => { results := [.lit (.bool true)], args := [d1, d2, d3, d4, d5, d6, d7] }
  | _ => none }
def signerSafeRow : OpenClaim := { program := "ytabhiangjomaeaa", sum := "131773374f30a69320b66f4949f23a69632dd7d09d0372e0416ddc60c770a157", func := "gazetteer/gazetteerlaw4.SignerSafe", spec := "signerSafe", unfollowed := true, recurses := true, apart := false }
def SignerSafeSaid : Prop := signerSafeRow.holds Try.pinned (OpenSpec.ofChange signerSafeSpec)

/-- ITS FALSE NEIGHBOUR: 'it returns false'. Refute it at one input. -/
def signerSafeWrong : ChangeSpec := { name := "signerSafe", fn := fun _ => fun
  | [d1, d2, d3, d4, d5, d6, d7] => { results := [.lit (.bool false)], args := [d1, d2, d3, d4, d5, d6, d7] }
  | _ => none }
def SignerSafeWrongFalsely : Prop := signerSafeRow.holds Try.pinned (OpenSpec.ofChange signerSafeWrong)

/-- 'gazetteerlaw2.WireRounds': WHATEVER THE INPUT: true; the input reads as it did. -/
def wireRoundsSpec : ChangeSpec := { name := "wireRounds", fn := fun _ => fun
  | [d1, d2] => { results := [.lit (.bool true)], args := [d1, d2] }
  | _ => none }
def wireRoundsRow : OpenClaim := { program := "ytabhiangjomaeaa", sum := "131773374f30a69320b66f4949f23a69632dd7d09d0372e0416ddc60c770a157", func := "gazetteer/gazetteerlaw2.WireRounds", spec := "wireRounds", unfollowed := true, recurses := true, apart := false }
def WireRoundsSaid : Prop := wireRoundsRow.holds Try.pinned (OpenSpec.ofChange wireRoundsSpec)

/-- ITS FALSE NEIGHBOUR: 'it returns false'. Refute it at one input. -/
def wireRoundsWrong : ChangeSpec := { name := "wireRounds", fn := fun _ => fun
  | [d1, d2] => { results := [.lit (.bool false)], args := [d1, d2] }
  | _ => none }
def WireRoundsWrongFalsely : Prop := wireRoundsRow.holds Try.pinned (OpenSpec.ofChange wireRoundsWrong)

/-- 'gazetteerlaw2.WireEnds': WHATEVER THE INPUT: true; the input reads as it did. -/
def wireEndsSpec : ChangeSpec := { name := "wireEnds", fn := fun _ => fun
  | [d1, d2, d3] => { results := [.lit (.bool true)], args := [d1, d2, d3] }
  | _ => none }
def wireEndsRow : OpenClaim := { program := "ytabhiangjomaeaa", sum := "131773374f30a69320b66f4949f23a69632dd7d09d0372e0416ddc60c770a157", func := "gazetteer/gazetteerlaw2.WireEnds", spec := "wireEnds", unfollowed := true, recurses := true, apart := false }
def WireEndsSaid : Prop := wireEndsRow.holds Try.pinned (OpenSpec.ofChange wireEndsSpec)

/-- ITS FALSE NEIGHBOUR: 'it returns false'. Refute it at one input. -/
def wireEndsWrong : ChangeSpec := { name := "wireEnds", fn := fun _ => fun
  | [d1, d2, d3] => { results := [.lit (.bool false)], args := [d1, d2, d3] }
  | _ => none }
def WireEndsWrongFalsely : Prop := wireEndsRow.holds Try.pinned (OpenSpec.ofChange wireEndsWrong)

/-- 'gazetteerlaw4.SignerRolls': WHATEVER THE INPUT: true; the input reads as it did. -/
def signerRollsSpec : ChangeSpec := { name := "signerRolls", fn := fun _ => fun
  | [d1, d2, d3, d4, d5, d6, d7] => { results := [.lit (.bool true)], args := [d1, d2, d3, d4, d5, d6, d7] }
  | _ => none }
def signerRollsRow : OpenClaim := { program := "ytabhiangjomaeaa", sum := "131773374f30a69320b66f4949f23a69632dd7d09d0372e0416ddc60c770a157", func := "gazetteer/gazetteerlaw4.SignerRolls", spec := "signerRolls", unfollowed := true, recurses := true, apart := false }
def SignerRollsSaid : Prop := signerRollsRow.holds Try.pinned (OpenSpec.ofChange signerRollsSpec)

/-- ITS FALSE NEIGHBOUR: 'it returns false'. Refute it at one input. -/
def signerRollsWrong : ChangeSpec := { name := "signerRolls", fn := fun _ => fun
  | [d1, d2, d3, d4, d5, d6, d7] => { results := [.lit (.bool false)], args := [d1, d2, d3, d4, d5, d6, d7] }
  | _ => none }
def SignerRollsWrongFalsely : Prop := signerRollsRow.holds Try.pinned (OpenSpec.ofChange signerRollsWrong)

/- THE SECOND FORM. 'bulk': how many values and letters a reading holds, each counted each time it is reached (what is shared counts as often as it is met; a slice's spare places count too). A statement '..UptoSaid' is the law's where the arguments, and the package variables that the reading takes, are together of bulk at most 1048576: NARROWER than '..Said'. Prove '..Said' where nothing that the law and all that it calls make is longer than what came in: it says more and counts as full. Else prove '..UptoSaid'. A law counts once. -/
mutual
def uptoBulk {H : Type} : DataW H → Nat
  | .lit (.string bytes) => bytes.length + 1
  | .lit _ => 1
  | .nil => 1
  | .ptr d => uptoBulk d + 1
  | .slice elems spare => uptoBulkAll elems + uptoBulkAll spare + 1
  | .agg parts => uptoBulkAll parts + 1
  | .iface _ d => uptoBulk d + 1
  | .map entries => uptoBulkEntries entries + 1
  | .held _ => 1
def uptoBulkAll {H : Type} : List (DataW H) → Nat
  | [] => 0
  | d :: r => uptoBulk d + uptoBulkAll r
def uptoBulkEntries {H : Type} : List (Lit × DataW H) → Nat
  | [] => 0
  | x :: r => uptoBulkEntry x + uptoBulkEntries r
def uptoBulkEntry {H : Type} : Lit × DataW H → Nat
  | (.string bytes, d) => bytes.length + uptoBulk d + 1
  | (_, d) => uptoBulk d + 1
 end
def uptoSmall : (H : Type) → List (DataW H) → Bool := fun _ ds => decide (uptoBulkAll ds ≤ 1048576)
def OpenSpec.upto (s : _root_.Go.ChangeSpec) : _root_.Go.OpenSpec := { _root_.Go.OpenSpec.ofChange s with cond := some uptoSmall }

/-- 'gazetteerlaw4.SignerPlans', WHERE WHAT IT READS IS OF BULK AT MOST 1048576: true; the input reads as it did. -/
def signerPlansUptoRow : OpenClaim := { program := "ytabhiangjomaeaa", sum := "131773374f30a69320b66f4949f23a69632dd7d09d0372e0416ddc60c770a157", func := "gazetteer/gazetteerlaw4.SignerPlans", spec := "signerPlans", apart := false, narrowed := true }
def SignerPlansUptoSaid : Prop := signerPlansUptoRow.holds Try.pinned (OpenSpec.upto signerPlansSpec)

/-- 'gazetteerlaw2.WirePacks', WHERE WHAT IT READS IS OF BULK AT MOST 1048576: true; the input reads as it did. -/
def wirePacksUptoRow : OpenClaim := { program := "ytabhiangjomaeaa", sum := "131773374f30a69320b66f4949f23a69632dd7d09d0372e0416ddc60c770a157", func := "gazetteer/gazetteerlaw2.WirePacks", spec := "wirePacks", unfollowed := true, recurses := true, apart := false, narrowed := true }
def WirePacksUptoSaid : Prop := wirePacksUptoRow.holds Try.pinned (OpenSpec.upto wirePacksSpec)

/-- 'gazetteerlaw2.WireShort', WHERE WHAT IT READS IS OF BULK AT MOST 1048576: true; the input reads as it did. -/
def wireShortUptoRow : OpenClaim := { program := "ytabhiangjomaeaa", sum := "131773374f30a69320b66f4949f23a69632dd7d09d0372e0416ddc60c770a157", func := "gazetteer/gazetteerlaw2.WireShort", spec := "wireShort", unfollowed := true, recurses := true, apart := false, narrowed := true }
def WireShortUptoSaid : Prop := wireShortUptoRow.holds Try.pinned (OpenSpec.upto wireShortSpec)

/-- 'gazetteerlaw2.WireUnpacks', WHERE WHAT IT READS IS OF BULK AT MOST 1048576: true; the input reads as it did. -/
def wireUnpacksUptoRow : OpenClaim := { program := "ytabhiangjomaeaa", sum := "131773374f30a69320b66f4949f23a69632dd7d09d0372e0416ddc60c770a157", func := "gazetteer/gazetteerlaw2.WireUnpacks", spec := "wireUnpacks", unfollowed := true, recurses := true, apart := false, narrowed := true }
def WireUnpacksUptoSaid : Prop := wireUnpacksUptoRow.holds Try.pinned (OpenSpec.upto wireUnpacksSpec)

/-- 'gazetteerlaw2.WireFitsWell', WHERE WHAT IT READS IS OF BULK AT MOST 1048576: true; the input reads as it did. -/
def wireFitsWellUptoRow : OpenClaim := { program := "ytabhiangjomaeaa", sum := "131773374f30a69320b66f4949f23a69632dd7d09d0372e0416ddc60c770a157", func := "gazetteer/gazetteerlaw2.WireFitsWell", spec := "wireFitsWell", unfollowed := true, recurses := true, apart := false, narrowed := true }
def WireFitsWellUptoSaid : Prop := wireFitsWellUptoRow.holds Try.pinned (OpenSpec.upto wireFitsWellSpec)

/-- 'gazetteerlaw1.DataSets', WHERE WHAT IT READS IS OF BULK AT MOST 1048576: true; the input reads as it did. -/
def dataSetsUptoRow : OpenClaim := { program := "ytabhiangjomaeaa", sum := "131773374f30a69320b66f4949f23a69632dd7d09d0372e0416ddc60c770a157", func := "gazetteer/gazetteerlaw1.DataSets", spec := "dataSets", recurses := true, apart := false, narrowed := true }
def DataSetsUptoSaid : Prop := dataSetsUptoRow.holds Try.pinned (OpenSpec.upto dataSetsSpec)

/-- 'gazetteerlaw4.SignerSafe', WHERE WHAT IT READS IS OF BULK AT MOST 1048576: true; the input reads as it did. -/
def signerSafeUptoRow : OpenClaim := { program := "ytabhiangjomaeaa", sum := "131773374f30a69320b66f4949f23a69632dd7d09d0372e0416ddc60c770a157", func := "gazetteer/gazetteerlaw4.SignerSafe", spec := "signerSafe", unfollowed := true, recurses := true, apart := false, narrowed := true }
def SignerSafeUptoSaid : Prop := signerSafeUptoRow.holds Try.pinned (OpenSpec.upto signerSafeSpec)

/-- 'gazetteerlaw2.WireRounds', WHERE WHAT IT READS IS OF BULK AT MOST 1048576: true; the input reads as it did. -/
def wireRoundsUptoRow : OpenClaim := { program := "ytabhiangjomaeaa", sum := "131773374f30a69320b66f4949f23a69632dd7d09d0372e0416ddc60c770a157", func := "gazetteer/gazetteerlaw2.WireRounds", spec := "wireRounds", unfollowed := true, recurses := true, apart := false, narrowed := true }
def WireRoundsUptoSaid : Prop := wireRoundsUptoRow.holds Try.pinned (OpenSpec.upto wireRoundsSpec)

/-- 'gazetteerlaw2.WireEnds', WHERE WHAT IT READS IS OF BULK AT MOST 1048576: true; the input reads as it did. -/
def wireEndsUptoRow : OpenClaim := { program := "ytabhiangjomaeaa", sum := "131773374f30a69320b66f4949f23a69632dd7d09d0372e0416ddc60c770a157", func := "gazetteer/gazetteerlaw2.WireEnds", spec := "wireEnds", unfollowed := true, recurses := true, apart := false, narrowed := true }
def WireEndsUptoSaid : Prop := wireEndsUptoRow.holds Try.pinned (OpenSpec.upto wireEndsSpec)

/-- 'gazetteerlaw4.SignerRolls', WHERE WHAT IT READS IS OF BULK AT MOST 1048576: true; the input reads as it did. -/
def signerRollsUptoRow : OpenClaim := { program := "ytabhiangjomaeaa", sum := "131773374f30a69320b66f4949f23a69632dd7d09d0372e0416ddc60c770a157", func := "gazetteer/gazetteerlaw4.SignerRolls", spec := "signerRolls", unfollowed := true, recurses := true, apart := false, narrowed := true }
def SignerRollsUptoSaid : Prop := signerRollsUptoRow.holds Try.pinned (OpenSpec.upto signerRollsSpec)

end Rows
end Go.Proofs.Ytabhiangjomaeaa
