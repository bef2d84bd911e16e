/-
  No cell of these rows narrows 'for every input' (looked for: loops, veiled, ifaces, maps, wideKeys, modest, calm, conditions, laid).
  DERIVED. THE GIVEN ROWS OF THIS SEAT. 14 by the template 'for every input the law returns true; each argument reads behind the call as it read before'; 0 by the template 'total and deterministic' (their statements: YtjflojefpaffeaaTotals.lean).
  GIVEN WITH THE SEED: the statements are not yours to turn. If you find one false, say at which input.
  Laid BY PROGRAM, IN A SANDBOX (cutbox-rows.mjs): the forced cells as the released guide's own fill.sh prints them over the translation f4b30bf778ed11f9… (all of the seat's roots in one cut). By AI agents, Wed Nov 11 2026. No macro, syntax, notation, axiom, sorry.
-/
import Derived.Test.YtjflojefpaffeaaChecked
import GoSem.Claim
import GoSem.ClaimJoined
import GoSem.ClaimMapViews
import Derived.JoinedTies
import Derived.KernelRfl
namespace Go.Proofs.Ytjflojefpaffeaa
/- THE CELL 'sum', in the pinned program and in every row, IS THE sha256 OF THE DUMP (.gsa) THAT YtjflojefpaffeaaProg.lean LOADS. Nothing in Lean hashes anything: it is a label: what it is worth is what the hold of that sum in a sandbox is worth. -/
noncomputable def Try.pinned : Pinned := { name := "ytjflojefpaffeaa", sum := "f4b30bf778ed11f9c87eb87789c0362743e8254ddc2669b2848ccec664307dd0", checked := Try.checked }
namespace Rows
def none {H : Type} : Left H := { results := [], args := [] }

/-- 'gazetteerlaw1.Names': WHATEVER THE INPUT: true; the input reads as it did. -/
def namesSpec : ChangeSpec := { name := "names", fn := fun _ => fun
  | [] => { results := [.lit (.bool true)], args := [] }
  | _ => none }
def namesRow : OpenClaim := { program := "ytjflojefpaffeaa", sum := "f4b30bf778ed11f9c87eb87789c0362743e8254ddc2669b2848ccec664307dd0", func := "gazetteer/gazetteerlaw1.Names", spec := "names", apart := false }
def NamesSaid : Prop := namesRow.holds Try.pinned (OpenSpec.ofChange namesSpec)

/-- ITS FALSE NEIGHBOUR: 'it returns false'. Refute it at one input. -/
def namesWrong : ChangeSpec := { name := "names", fn := fun _ => fun
  | [] => { results := [.lit (.bool false)], args := [] }
  | _ => none }
def NamesWrongFalsely : Prop := namesRow.holds Try.pinned (OpenSpec.ofChange namesWrong)

/-- 'gazetteerlaw4.SignerPlans': WHATEVER THE INPUT: true; the input reads as it did. -/
def signerPlansSpec : ChangeSpec := { name := "signerPlans", fn := fun _ => fun
  | [d1, d2, d3] => { results := [.lit (.bool true)], args := [d1, d2, d3] }
  | _ => none }
def signerPlansRow : OpenClaim := { program := "ytjflojefpaffeaa", sum := "f4b30bf778ed11f9c87eb87789c0362743e8254ddc2669b2848ccec664307dd0", func := "gazetteer/gazetteerlaw4.SignerPlans", spec := "signerPlans", apart := false }
def SignerPlansSaid : Prop := signerPlansRow.holds Try.pinned (OpenSpec.ofChange signerPlansSpec)

/-- ITS FALSE NEIGHBOUR: 'it returns false'. Refute it at one input. -/
def signerPlansWrong : ChangeSpec := { name := "signerPlans", fn := fun _ => fun
  | [d1, d2, d3] => { results := [.lit (.bool false)], args := [d1, d2, d3] }
  | _ => none }
def SignerPlansWrongFalsely : Prop := signerPlansRow.holds Try.pinned (OpenSpec.ofChange signerPlansWrong)

/-- 'gazetteerlaw2.MasterSeconds': WHATEVER THE INPUT: true; the input reads as it did. -/
def masterSecondsSpec : ChangeSpec := { name := "masterSeconds", fn := fun _ => fun
  | [d] => { results := [.lit (.bool true)], args := [d] }
  | _ => none }
def masterSecondsRow : OpenClaim := { program := "ytjflojefpaffeaa", sum := "f4b30bf778ed11f9c87eb87789c0362743e8254ddc2669b2848ccec664307dd0", func := "gazetteer/gazetteerlaw2.MasterSeconds", spec := "masterSeconds", apart := false }
def MasterSecondsSaid : Prop := masterSecondsRow.holds Try.pinned (OpenSpec.ofChange masterSecondsSpec)

/-- ITS FALSE NEIGHBOUR: 'it returns false'. Refute it at one input. -/
def masterSecondsWrong : ChangeSpec := { name := "masterSeconds", fn := fun _ => fun
  | [d] => { results := [.lit (.bool false)], args := [d] }
  | _ => none }
def MasterSecondsWrongFalsely : Prop := masterSecondsRow.holds Try.pinned (OpenSpec.ofChange masterSecondsWrong)

/-- 'gazetteerlaw1.DataOrder32': WHATEVER THE INPUT: true; the input reads as it did. -/
def dataOrder32Spec : ChangeSpec := { name := "dataOrder32", fn := fun _ => fun
  | [d1, d2] => { results := [.lit (.bool true)], args := [d1, d2] }
  | _ => none }
def dataOrder32Row : OpenClaim := { program := "ytjflojefpaffeaa", sum := "f4b30bf778ed11f9c87eb87789c0362743e8254ddc2669b2848ccec664307dd0", func := "gazetteer/gazetteerlaw1.DataOrder32", spec := "dataOrder32", inPlace := ["internal/abi.NoEscape"], apart := false }
def DataOrder32Said : Prop := dataOrder32Row.holds Try.pinned (OpenSpec.ofChange dataOrder32Spec)

/-- ITS FALSE NEIGHBOUR: 'it returns false'. Refute it at one input. -/
def dataOrder32Wrong : ChangeSpec := { name := "dataOrder32", fn := fun _ => fun
  | [d1, d2] => { results := [.lit (.bool false)], args := [d1, d2] }
  | _ => none }
def DataOrder32WrongFalsely : Prop := dataOrder32Row.holds Try.pinned (OpenSpec.ofChange dataOrder32Wrong)

/-- 'gazetteerlaw1.DataBase32': WHATEVER THE INPUT: true; the input reads as it did. -/
def dataBase32Spec : ChangeSpec := { name := "dataBase32", fn := fun _ => fun
  | [d1, d2] => { results := [.lit (.bool true)], args := [d1, d2] }
  | _ => none }
def dataBase32Row : OpenClaim := { program := "ytjflojefpaffeaa", sum := "f4b30bf778ed11f9c87eb87789c0362743e8254ddc2669b2848ccec664307dd0", func := "gazetteer/gazetteerlaw1.DataBase32", spec := "dataBase32", inPlace := ["internal/abi.NoEscape", "internal/bytealg.IndexByteString"], apart := false }
def DataBase32Said : Prop := dataBase32Row.holds Try.pinned (OpenSpec.ofChange dataBase32Spec)

/-- ITS FALSE NEIGHBOUR: 'it returns false'. Refute it at one input. -/
def dataBase32Wrong : ChangeSpec := { name := "dataBase32", fn := fun _ => fun
  | [d1, d2] => { results := [.lit (.bool false)], args := [d1, d2] }
  | _ => none }
def DataBase32WrongFalsely : Prop := dataBase32Row.holds Try.pinned (OpenSpec.ofChange dataBase32Wrong)

/-- 'gazetteerlaw1.NameGrafts': WHATEVER THE INPUT: true; the input reads as it did. -/
def nameGraftsSpec : ChangeSpec := { name := "nameGrafts", fn := fun _ => fun
  | [d1, d2, d3] => { results := [.lit (.bool true)], args := [d1, d2, d3] }
  | _ => none }
def nameGraftsRow : OpenClaim := { program := "ytjflojefpaffeaa", sum := "f4b30bf778ed11f9c87eb87789c0362743e8254ddc2669b2848ccec664307dd0", func := "gazetteer/gazetteerlaw1.NameGrafts", spec := "nameGrafts", unfollowed := true, recurses := true, apart := false }
def NameGraftsSaid : Prop := nameGraftsRow.holds Try.pinned (OpenSpec.ofChange nameGraftsSpec)

/-- ITS FALSE NEIGHBOUR: 'it returns false'. Refute it at one input. -/
def nameGraftsWrong : ChangeSpec := { name := "nameGrafts", fn := fun _ => fun
  | [d1, d2, d3] => { results := [.lit (.bool false)], args := [d1, d2, d3] }
  | _ => none }
def NameGraftsWrongFalsely : Prop := nameGraftsRow.holds Try.pinned (OpenSpec.ofChange nameGraftsWrong)

/-- 'gazetteerlaw4.ProofCovers': WHATEVER THE INPUT: true; the input reads as it did. -/
def proofCoversSpec : ChangeSpec := { name := "proofCovers", fn := fun _ => fun
  | [d1, d2, d3] => { results := [.lit (.bool true)], args := [d1, d2, d3] }
  | _ => none }
def proofCoversRow : OpenClaim := { program := "ytjflojefpaffeaa", sum := "f4b30bf778ed11f9c87eb87789c0362743e8254ddc2669b2848ccec664307dd0", func := "gazetteer/gazetteerlaw4.ProofCovers", spec := "proofCovers", inPlace := ["internal/bytealg.abigen_runtime_cmpstring"], unfollowed := true, recurses := true, apart := false }
def ProofCoversSaid : Prop := proofCoversRow.holds Try.pinned (OpenSpec.ofChange proofCoversSpec)

/-- ITS FALSE NEIGHBOUR: 'it returns false'. Refute it at one input. -/
def proofCoversWrong : ChangeSpec := { name := "proofCovers", fn := fun _ => fun
  | [d1, d2, d3] => { results := [.lit (.bool false)], args := [d1, d2, d3] }
  | _ => none }
def ProofCoversWrongFalsely : Prop := proofCoversRow.holds Try.pinned (OpenSpec.ofChange proofCoversWrong)

/-- 'gazetteerlaw4.SealDigests': WHATEVER THE INPUT: true; the input reads as it did. -/
def sealDigestsSpec : ChangeSpec := { name := "sealDigests", fn := fun _ => fun
  | [d1, d2, d3, d4] => { results := [.lit (.bool true)], args := [d1, d2, d3, d4] }
  | _ => none }
def sealDigestsRow : OpenClaim := { program := "ytjflojefpaffeaa", sum := "f4b30bf778ed11f9c87eb87789c0362743e8254ddc2669b2848ccec664307dd0", func := "gazetteer/gazetteerlaw4.SealDigests", spec := "sealDigests", inPlace := ["internal/abi.NoEscape"], unfollowed := true, recurses := true, apart := false }
def SealDigestsSaid : Prop := sealDigestsRow.holds Try.pinned (OpenSpec.ofChange sealDigestsSpec)

/-- ITS FALSE NEIGHBOUR: 'it returns false'. Refute it at one input. -/
def sealDigestsWrong : ChangeSpec := { name := "sealDigests", fn := fun _ => fun
  | [d1, d2, d3, d4] => { results := [.lit (.bool false)], args := [d1, d2, d3, d4] }
  | _ => none }
def SealDigestsWrongFalsely : Prop := sealDigestsRow.holds Try.pinned (OpenSpec.ofChange sealDigestsWrong)

/-- 'gazetteerlaw1.NameShows': WHATEVER THE INPUT: true; the input reads as it did. -/
def nameShowsSpec : ChangeSpec := { name := "nameShows", fn := fun _ => fun
  | [d] => { results := [.lit (.bool true)], args := [d] }
  | _ => none }
def nameShowsRow : OpenClaim := { program := "ytjflojefpaffeaa", sum := "f4b30bf778ed11f9c87eb87789c0362743e8254ddc2669b2848ccec664307dd0", func := "gazetteer/gazetteerlaw1.NameShows", spec := "nameShows", inPlace := ["internal/bytealg.IndexByteString", "internal/abi.NoEscape"], unfollowed := true, recurses := true, apart := false }
def NameShowsSaid : Prop := nameShowsRow.holds Try.pinned (OpenSpec.ofChange nameShowsSpec)

/-- ITS FALSE NEIGHBOUR: 'it returns false'. Refute it at one input. -/
def nameShowsWrong : ChangeSpec := { name := "nameShows", fn := fun _ => fun
  | [d] => { results := [.lit (.bool false)], args := [d] }
  | _ => none }
def NameShowsWrongFalsely : Prop := nameShowsRow.holds Try.pinned (OpenSpec.ofChange nameShowsWrong)

/-- 'gazetteerlaw1.NameOrder': WHATEVER THE INPUT: true; the input reads as it did. -/
def nameOrderSpec : ChangeSpec := { name := "nameOrder", fn := fun _ => fun
  | [d1, d2, d3] => { results := [.lit (.bool true)], args := [d1, d2, d3] }
  | _ => none }
def nameOrderRow : OpenClaim := { program := "ytjflojefpaffeaa", sum := "f4b30bf778ed11f9c87eb87789c0362743e8254ddc2669b2848ccec664307dd0", func := "gazetteer/gazetteerlaw1.NameOrder", spec := "nameOrder", inPlace := ["internal/bytealg.abigen_runtime_cmpstring"], unfollowed := true, recurses := true, apart := false }
def NameOrderSaid : Prop := nameOrderRow.holds Try.pinned (OpenSpec.ofChange nameOrderSpec)

/-- ITS FALSE NEIGHBOUR: 'it returns false'. Refute it at one input. -/
def nameOrderWrong : ChangeSpec := { name := "nameOrder", fn := fun _ => fun
  | [d1, d2, d3] => { results := [.lit (.bool false)], args := [d1, d2, d3] }
  | _ => none }
def NameOrderWrongFalsely : Prop := nameOrderRow.holds Try.pinned (OpenSpec.ofChange nameOrderWrong)

/-- 'gazetteerlaw1.NameCompares': WHATEVER THE INPUT: true; the input reads as it did. -/
def nameComparesSpec : ChangeSpec := { name := "nameCompares", fn := fun _ => fun
  | [d1, d2] => { results := [.lit (.bool true)], args := [d1, d2] }
  | _ => none }
def nameComparesRow : OpenClaim := { program := "ytjflojefpaffeaa", sum := "f4b30bf778ed11f9c87eb87789c0362743e8254ddc2669b2848ccec664307dd0", func := "gazetteer/gazetteerlaw1.NameCompares", spec := "nameCompares", inPlace := ["internal/bytealg.abigen_runtime_cmpstring"], unfollowed := true, recurses := true, apart := false }
def NameComparesSaid : Prop := nameComparesRow.holds Try.pinned (OpenSpec.ofChange nameComparesSpec)

/-- ITS FALSE NEIGHBOUR: 'it returns false'. Refute it at one input. -/
def nameComparesWrong : ChangeSpec := { name := "nameCompares", fn := fun _ => fun
  | [d1, d2] => { results := [.lit (.bool false)], args := [d1, d2] }
  | _ => none }
def NameComparesWrongFalsely : Prop := nameComparesRow.holds Try.pinned (OpenSpec.ofChange nameComparesWrong)

/-- 'gazetteerlaw1.NameReads': WHATEVER THE INPUT: true; the input reads as it did. -/
def nameReadsSpec : ChangeSpec := { name := "nameReads", fn := fun _ => fun
  | [d1, d2] => { results := [.lit (.bool true)], args := [d1, d2] }
  | _ => none }
def nameReadsRow : OpenClaim := { program := "ytjflojefpaffeaa", sum := "f4b30bf778ed11f9c87eb87789c0362743e8254ddc2669b2848ccec664307dd0", func := "gazetteer/gazetteerlaw1.NameReads", spec := "nameReads", unfollowed := true, recurses := true, apart := false }
def NameReadsSaid : Prop := nameReadsRow.holds Try.pinned (OpenSpec.ofChange nameReadsSpec)

/-- ITS FALSE NEIGHBOUR: 'it returns false'. Refute it at one input. -/
def nameReadsWrong : ChangeSpec := { name := "nameReads", fn := fun _ => fun
  | [d1, d2] => { results := [.lit (.bool false)], args := [d1, d2] }
  | _ => none }
def NameReadsWrongFalsely : Prop := nameReadsRow.holds Try.pinned (OpenSpec.ofChange nameReadsWrong)

/-- 'gazetteerlaw1.NameParts': WHATEVER THE INPUT: true; the input reads as it did. -/
def namePartsSpec : ChangeSpec := { name := "nameParts", fn := fun _ => fun
  | [d1, d2, d3] => { results := [.lit (.bool true)], args := [d1, d2, d3] }
  | _ => none }
def namePartsRow : OpenClaim := { program := "ytjflojefpaffeaa", sum := "f4b30bf778ed11f9c87eb87789c0362743e8254ddc2669b2848ccec664307dd0", func := "gazetteer/gazetteerlaw1.NameParts", spec := "nameParts", inPlace := ["internal/abi.NoEscape"], unfollowed := true, recurses := true, apart := false }
def NamePartsSaid : Prop := namePartsRow.holds Try.pinned (OpenSpec.ofChange namePartsSpec)

/-- ITS FALSE NEIGHBOUR: 'it returns false'. Refute it at one input. -/
def namePartsWrong : ChangeSpec := { name := "nameParts", fn := fun _ => fun
  | [d1, d2, d3] => { results := [.lit (.bool false)], args := [d1, d2, d3] }
  | _ => none }
def NamePartsWrongFalsely : Prop := namePartsRow.holds Try.pinned (OpenSpec.ofChange namePartsWrong)

/-- 'gazetteerlaw4.SealKeys': WHATEVER THE INPUT: true; the input reads as it did. -/
def sealKeysSpec : ChangeSpec := { name := "sealKeys", fn := fun _ => fun
  | [d1, d2, d3, d4, d5, d6, d7] => { results := [.lit (.bool true)], args := [d1, d2, d3, d4, d5, d6, d7] }
  | _ => none }
def sealKeysRow : OpenClaim := { program := "ytjflojefpaffeaa", sum := "f4b30bf778ed11f9c87eb87789c0362743e8254ddc2669b2848ccec664307dd0", func := "gazetteer/gazetteerlaw4.SealKeys", spec := "sealKeys", inPlace := ["internal/abi.NoEscape"], unfollowed := true, recurses := true, apart := false }
def SealKeysSaid : Prop := sealKeysRow.holds Try.pinned (OpenSpec.ofChange sealKeysSpec)

/-- ITS FALSE NEIGHBOUR: 'it returns false'. Refute it at one input. -/
def sealKeysWrong : ChangeSpec := { name := "sealKeys", fn := fun _ => fun
  | [d1, d2, d3, d4, d5, d6, d7] => { results := [.lit (.bool false)], args := [d1, d2, d3, d4, d5, d6, d7] }
  | _ => none }
def SealKeysWrongFalsely : Prop := sealKeysRow.holds Try.pinned (OpenSpec.ofChange sealKeysWrong)

/- THE SECOND FORM. 'bulk': how many values and letters a reading holds, each counted each time it is reached (what is shared counts as often as it is met; a slice's spare places count too). A statement '..UptoSaid' is the law's where the arguments, and the package variables that the reading takes, are together of bulk at most 1048576: NARROWER than '..Said'. Prove '..Said' where nothing that the law and all that it calls make is longer than what came in: it says more and counts as full. Else prove '..UptoSaid'. A law counts once. -/
mutual
def uptoBulk {H : Type} : DataW H → Nat
  | .lit (.string bytes) => bytes.length + 1
  | .lit _ => 1
  | .nil => 1
  | .ptr d => uptoBulk d + 1
  | .slice elems spare => uptoBulkAll elems + uptoBulkAll spare + 1
  | .agg parts => uptoBulkAll parts + 1
  | .iface _ d => uptoBulk d + 1
  | .map entries => uptoBulkEntries entries + 1
  | .held _ => 1
def uptoBulkAll {H : Type} : List (DataW H) → Nat
  | [] => 0
  | d :: r => uptoBulk d + uptoBulkAll r
def uptoBulkEntries {H : Type} : List (Lit × DataW H) → Nat
  | [] => 0
  | x :: r => uptoBulkEntry x + uptoBulkEntries r
def uptoBulkEntry {H : Type} : Lit × DataW H → Nat
  | (.string bytes, d) => bytes.length + uptoBulk d + 1
  | (_, d) => uptoBulk d + 1
 end
def uptoSmall : (H : Type) → List (DataW H) → Bool := fun _ ds => decide (uptoBulkAll ds ≤ 1048576)
def OpenSpec.upto (s : _root_.Go.ChangeSpec) : _root_.Go.OpenSpec := { _root_.Go.OpenSpec.ofChange s with cond := some uptoSmall }

/-- 'gazetteerlaw1.Names', WHERE WHAT IT READS IS OF BULK AT MOST 1048576: true; the input reads as it did. -/
def namesUptoRow : OpenClaim := { program := "ytjflojefpaffeaa", sum := "f4b30bf778ed11f9c87eb87789c0362743e8254ddc2669b2848ccec664307dd0", func := "gazetteer/gazetteerlaw1.Names", spec := "names", apart := false, narrowed := true }
def NamesUptoSaid : Prop := namesUptoRow.holds Try.pinned (OpenSpec.upto namesSpec)

/-- 'gazetteerlaw4.SignerPlans', WHERE WHAT IT READS IS OF BULK AT MOST 1048576: true; the input reads as it did. -/
def signerPlansUptoRow : OpenClaim := { program := "ytjflojefpaffeaa", sum := "f4b30bf778ed11f9c87eb87789c0362743e8254ddc2669b2848ccec664307dd0", func := "gazetteer/gazetteerlaw4.SignerPlans", spec := "signerPlans", apart := false, narrowed := true }
def SignerPlansUptoSaid : Prop := signerPlansUptoRow.holds Try.pinned (OpenSpec.upto signerPlansSpec)

/-- 'gazetteerlaw2.MasterSeconds', WHERE WHAT IT READS IS OF BULK AT MOST 1048576: true; the input reads as it did. -/
def masterSecondsUptoRow : OpenClaim := { program := "ytjflojefpaffeaa", sum := "f4b30bf778ed11f9c87eb87789c0362743e8254ddc2669b2848ccec664307dd0", func := "gazetteer/gazetteerlaw2.MasterSeconds", spec := "masterSeconds", apart := false, narrowed := true }
def MasterSecondsUptoSaid : Prop := masterSecondsUptoRow.holds Try.pinned (OpenSpec.upto masterSecondsSpec)

/-- 'gazetteerlaw1.DataOrder32', WHERE WHAT IT READS IS OF BULK AT MOST 1048576: true; the input reads as it did. -/
def dataOrder32UptoRow : OpenClaim := { program := "ytjflojefpaffeaa", sum := "f4b30bf778ed11f9c87eb87789c0362743e8254ddc2669b2848ccec664307dd0", func := "gazetteer/gazetteerlaw1.DataOrder32", spec := "dataOrder32", inPlace := ["internal/abi.NoEscape"], apart := false, narrowed := true }
def DataOrder32UptoSaid : Prop := dataOrder32UptoRow.holds Try.pinned (OpenSpec.upto dataOrder32Spec)

/-- 'gazetteerlaw1.DataBase32', WHERE WHAT IT READS IS OF BULK AT MOST 1048576: true; the input reads as it did. -/
def dataBase32UptoRow : OpenClaim := { program := "ytjflojefpaffeaa", sum := "f4b30bf778ed11f9c87eb87789c0362743e8254ddc2669b2848ccec664307dd0", func := "gazetteer/gazetteerlaw1.DataBase32", spec := "dataBase32", inPlace := ["internal/abi.NoEscape", "internal/bytealg.IndexByteString"], apart := false, narrowed := true }
def DataBase32UptoSaid : Prop := dataBase32UptoRow.holds Try.pinned (OpenSpec.upto dataBase32Spec)

/-- 'gazetteerlaw1.NameGrafts', WHERE WHAT IT READS IS OF BULK AT MOST 1048576: true; the input reads as it did. -/
def nameGraftsUptoRow : OpenClaim := { program := "ytjflojefpaffeaa", sum := "f4b30bf778ed11f9c87eb87789c0362743e8254ddc2669b2848ccec664307dd0", func := "gazetteer/gazetteerlaw1.NameGrafts", spec := "nameGrafts", unfollowed := true, recurses := true, apart := false, narrowed := true }
def NameGraftsUptoSaid : Prop := nameGraftsUptoRow.holds Try.pinned (OpenSpec.upto nameGraftsSpec)

/-- 'gazetteerlaw4.ProofCovers', WHERE WHAT IT READS IS OF BULK AT MOST 1048576: true; the input reads as it did. -/
def proofCoversUptoRow : OpenClaim := { program := "ytjflojefpaffeaa", sum := "f4b30bf778ed11f9c87eb87789c0362743e8254ddc2669b2848ccec664307dd0", func := "gazetteer/gazetteerlaw4.ProofCovers", spec := "proofCovers", inPlace := ["internal/bytealg.abigen_runtime_cmpstring"], unfollowed := true, recurses := true, apart := false, narrowed := true }
def ProofCoversUptoSaid : Prop := proofCoversUptoRow.holds Try.pinned (OpenSpec.upto proofCoversSpec)

/-- 'gazetteerlaw4.SealDigests', WHERE WHAT IT READS IS OF BULK AT MOST 1048576: true; the input reads as it did. -/
def sealDigestsUptoRow : OpenClaim := { program := "ytjflojefpaffeaa", sum := "f4b30bf778ed11f9c87eb87789c0362743e8254ddc2669b2848ccec664307dd0", func := "gazetteer/gazetteerlaw4.SealDigests", spec := "sealDigests", inPlace := ["internal/abi.NoEscape"], unfollowed := true, recurses := true, apart := false, narrowed := true }
def SealDigestsUptoSaid : Prop := sealDigestsUptoRow.holds Try.pinned (OpenSpec.upto sealDigestsSpec)

/-- 'gazetteerlaw1.NameShows', WHERE WHAT IT READS IS OF BULK AT MOST 1048576: true; the input reads as it did. -/
def nameShowsUptoRow : OpenClaim := { program := "ytjflojefpaffeaa", sum := "f4b30bf778ed11f9c87eb87789c0362743e8254ddc2669b2848ccec664307dd0", func := "gazetteer/gazetteerlaw1.NameShows", spec := "nameShows", inPlace := ["internal/bytealg.IndexByteString", "internal/abi.NoEscape"], unfollowed := true, recurses := true, apart := false, narrowed := true }
def NameShowsUptoSaid : Prop := nameShowsUptoRow.holds Try.pinned (OpenSpec.upto nameShowsSpec)

/-- 'gazetteerlaw1.NameOrder', WHERE WHAT IT READS IS OF BULK AT MOST 1048576: true; the input reads as it did. -/
def nameOrderUptoRow : OpenClaim := { program := "ytjflojefpaffeaa", sum := "f4b30bf778ed11f9c87eb87789c0362743e8254ddc2669b2848ccec664307dd0", func := "gazetteer/gazetteerlaw1.NameOrder", spec := "nameOrder", inPlace := ["internal/bytealg.abigen_runtime_cmpstring"], unfollowed := true, recurses := true, apart := false, narrowed := true }
def NameOrderUptoSaid : Prop := nameOrderUptoRow.holds Try.pinned (OpenSpec.upto nameOrderSpec)

/-- 'gazetteerlaw1.NameCompares', WHERE WHAT IT READS IS OF BULK AT MOST 1048576: true; the input reads as it did. -/
def nameComparesUptoRow : OpenClaim := { program := "ytjflojefpaffeaa", sum := "f4b30bf778ed11f9c87eb87789c0362743e8254ddc2669b2848ccec664307dd0", func := "gazetteer/gazetteerlaw1.NameCompares", spec := "nameCompares", inPlace := ["internal/bytealg.abigen_runtime_cmpstring"], unfollowed := true, recurses := true, apart := false, narrowed := true }
def NameComparesUptoSaid : Prop := nameComparesUptoRow.holds Try.pinned (OpenSpec.upto nameComparesSpec)

/-- 'gazetteerlaw1.NameReads', WHERE WHAT IT READS IS OF BULK AT MOST 1048576: true; the input reads as it did. -/
def nameReadsUptoRow : OpenClaim := { program := "ytjflojefpaffeaa", sum := "f4b30bf778ed11f9c87eb87789c0362743e8254ddc2669b2848ccec664307dd0", func := "gazetteer/gazetteerlaw1.NameReads", spec := "nameReads", unfollowed := true, recurses := true, apart := false, narrowed := true }
def NameReadsUptoSaid : Prop := nameReadsUptoRow.holds Try.pinned (OpenSpec.upto nameReadsSpec)

/-- 'gazetteerlaw1.NameParts', WHERE WHAT IT READS IS OF BULK AT MOST 1048576: true; the input reads as it did. -/
def namePartsUptoRow : OpenClaim := { program := "ytjflojefpaffeaa", sum := "f4b30bf778ed11f9c87eb87789c0362743e8254ddc2669b2848ccec664307dd0", func := "gazetteer/gazetteerlaw1.NameParts", spec := "nameParts", inPlace := ["internal/abi.NoEscape"], unfollowed := true, recurses := true, apart := false, narrowed := true }
def NamePartsUptoSaid : Prop := namePartsUptoRow.holds Try.pinned (OpenSpec.upto namePartsSpec)

/-- 'gazetteerlaw4.SealKeys', WHERE WHAT IT READS IS OF BULK AT MOST 1048576: true; the input reads as it did. -/
def sealKeysUptoRow : OpenClaim := { program := "ytjflojefpaffeaa", sum := "f4b30bf778ed11f9c87eb87789c0362743e8254ddc2669b2848ccec664307dd0", func := "gazetteer/gazetteerlaw4.SealKeys", spec := "sealKeys", inPlace := ["internal/abi.NoEscape"], unfollowed := true, recurses := true, apart := false, narrowed := true }
def SealKeysUptoSaid : Prop := sealKeysUptoRow.holds Try.pinned (OpenSpec.upto sealKeysSpec)

end Rows
end Go.Proofs.Ytjflojefpaffeaa
