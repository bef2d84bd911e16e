/-
  No cell of these rows narrows 'for every input' (looked for: loops, veiled, ifaces, maps, wideKeys, modest, calm, conditions, laid).
  DERIVED. THE GIVEN ROWS OF THIS SEAT. 5 by the template 'for every input the law returns true; each argument reads behind the call as it read before'; 0 by the template 'total and deterministic' (their statements: YtflijhodlimjoaaGreatTotals.lean).
  GIVEN WITH THE SEED: the statements are not yours to turn. If you find one false, say at which input.
  Laid BY PROGRAM, IN A SANDBOX (cutbox-rows.mjs): the forced cells as the released guide's own fill.sh prints them over the translation ef5a364ff2dd5d78… (all of the seat's roots in one cut). By AI agents, Wed Nov 11 2026. No macro, syntax, notation, axiom, sorry.
-/
import Derived.Test.YtflijhodlimjoaaGreatChecked
import GoSem.Claim
import GoSem.ClaimJoined
import GoSem.ClaimMapViews
import Derived.JoinedTies
import Derived.KernelRfl
namespace Go.Proofs.YtflijhodlimjoaaGreat
/- THE CELL 'sum', in the pinned program and in every row, IS THE sha256 OF THE DUMP (.gsa) THAT YtflijhodlimjoaaGreatProg.lean LOADS. Nothing in Lean hashes anything: it is a label: what it is worth is what the hold of that sum in a sandbox is worth. -/
noncomputable def Tryz.pinned : Pinned := { name := "ytflijhodlimjoaagreat", sum := "ef5a364ff2dd5d78cc132094f276d864eca10a8a0e83e21e6d45bcb114394bf6", checked := Tryz.checked }
namespace Rows
def none {H : Type} : Left H := { results := [], args := [] }

/-- 'gazetteerlaw4.ProofJudges': WHATEVER THE INPUT: true; the input reads as it did. -/
def proofJudgesSpec : ChangeSpec := { name := "proofJudges", fn := fun _ => fun
  | [d1, d2, d3] => { results := [.lit (.bool true)], args := [d1, d2, d3] }
  | _ => none }
def proofJudgesRow : OpenClaim := { program := "ytflijhodlimjoaagreat", sum := "ef5a364ff2dd5d78cc132094f276d864eca10a8a0e83e21e6d45bcb114394bf6", func := "gazetteer/gazetteerlaw4.ProofJudges", spec := "proofJudges", inPlace := ["internal/abi.NoEscape", "internal/bytealg.abigen_runtime_cmpstring", "internal/bytealg.IndexByteString"], unfollowed := true, recurses := true, apart := false }
def ProofJudgesSaid : Prop := proofJudgesRow.holds Tryz.pinned (OpenSpec.ofChange proofJudgesSpec)

/-- ITS FALSE NEIGHBOUR: 'it returns false'. Refute it at one input. -/
def proofJudgesWrong : ChangeSpec := { name := "proofJudges", fn := fun _ => fun
  | [d1, d2, d3] => { results := [.lit (.bool false)], args := [d1, d2, d3] }
  | _ => none }
def ProofJudgesWrongFalsely : Prop := proofJudgesRow.holds Tryz.pinned (OpenSpec.ofChange proofJudgesWrong)

/-- 'gazetteerlaw4.SealSigns': WHATEVER THE INPUT: true; the input reads as it did. -/
def sealSignsSpec : ChangeSpec := { name := "sealSigns", fn := fun _ => fun
  | [d1, d2, d3, d4, d5] => { results := [.lit (.bool true)], args := [d1, d2, d3, d4, d5] }
  | _ => none }
def sealSignsRow : OpenClaim := { program := "ytflijhodlimjoaagreat", sum := "ef5a364ff2dd5d78cc132094f276d864eca10a8a0e83e21e6d45bcb114394bf6", func := "gazetteer/gazetteerlaw4.SealSigns", spec := "sealSigns", inPlace := ["internal/abi.NoEscape"], unfollowed := true, recurses := true, apart := false }
def SealSignsSaid : Prop := sealSignsRow.holds Tryz.pinned (OpenSpec.ofChange sealSignsSpec)

/-- ITS FALSE NEIGHBOUR: 'it returns false'. Refute it at one input. -/
def sealSignsWrong : ChangeSpec := { name := "sealSigns", fn := fun _ => fun
  | [d1, d2, d3, d4, d5] => { results := [.lit (.bool false)], args := [d1, d2, d3, d4, d5] }
  | _ => none }
def SealSignsWrongFalsely : Prop := sealSignsRow.holds Tryz.pinned (OpenSpec.ofChange sealSignsWrong)

/-- 'gazetteerlaw4.SealVerifies': WHATEVER THE INPUT: true; the input reads as it did. -/
def sealVerifiesSpec : ChangeSpec := { name := "sealVerifies", fn := fun _ => fun
  | [d1, d2, d3, d4, d5] => { results := [.lit (.bool true)], args := [d1, d2, d3, d4, d5] }
  | _ => none }
def sealVerifiesRow : OpenClaim := { program := "ytflijhodlimjoaagreat", sum := "ef5a364ff2dd5d78cc132094f276d864eca10a8a0e83e21e6d45bcb114394bf6", func := "gazetteer/gazetteerlaw4.SealVerifies", spec := "sealVerifies", inPlace := ["internal/abi.NoEscape"], unfollowed := true, recurses := true, apart := false }
def SealVerifiesSaid : Prop := sealVerifiesRow.holds Tryz.pinned (OpenSpec.ofChange sealVerifiesSpec)

/-- ITS FALSE NEIGHBOUR: 'it returns false'. Refute it at one input. -/
def sealVerifiesWrong : ChangeSpec := { name := "sealVerifies", fn := fun _ => fun
  | [d1, d2, d3, d4, d5] => { results := [.lit (.bool false)], args := [d1, d2, d3, d4, d5] }
  | _ => none }
def SealVerifiesWrongFalsely : Prop := sealVerifiesRow.holds Tryz.pinned (OpenSpec.ofChange sealVerifiesWrong)

/-- 'gazetteerlaw4.SealRounds': WHATEVER THE INPUT: true; the input reads as it did. -/
def sealRoundsSpec : ChangeSpec := { name := "sealRounds", fn := fun _ => fun
  | [d1, d2, d3, d4, d5, d6, d7, d8, d9, d10, d11] => { results := [.lit (.bool true)], args := [d1, d2, d3, d4, d5, d6, d7, d8, d9, d10, d11] }
  | _ => none }
def sealRoundsRow : OpenClaim := { program := "ytflijhodlimjoaagreat", sum := "ef5a364ff2dd5d78cc132094f276d864eca10a8a0e83e21e6d45bcb114394bf6", func := "gazetteer/gazetteerlaw4.SealRounds", spec := "sealRounds", inPlace := ["internal/abi.NoEscape"], unfollowed := true, recurses := true, apart := false }
def SealRoundsSaid : Prop := sealRoundsRow.holds Tryz.pinned (OpenSpec.ofChange sealRoundsSpec)

/-- ITS FALSE NEIGHBOUR: 'it returns false'. Refute it at one input. -/
def sealRoundsWrong : ChangeSpec := { name := "sealRounds", fn := fun _ => fun
  | [d1, d2, d3, d4, d5, d6, d7, d8, d9, d10, d11] => { results := [.lit (.bool false)], args := [d1, d2, d3, d4, d5, d6, d7, d8, d9, d10, d11] }
  | _ => none }
def SealRoundsWrongFalsely : Prop := sealRoundsRow.holds Tryz.pinned (OpenSpec.ofChange sealRoundsWrong)

/-- 'gazetteerlaw4.SealStars': WHATEVER THE INPUT: true; the input reads as it did. -/
def sealStarsSpec : ChangeSpec := { name := "sealStars", fn := fun _ => fun
  | [d1, d2, d3, d4, d5, d6, d7] => { results := [.lit (.bool true)], args := [d1, d2, d3, d4, d5, d6, d7] }
  | _ => none }
def sealStarsRow : OpenClaim := { program := "ytflijhodlimjoaagreat", sum := "ef5a364ff2dd5d78cc132094f276d864eca10a8a0e83e21e6d45bcb114394bf6", func := "gazetteer/gazetteerlaw4.SealStars", spec := "sealStars", inPlace := ["internal/abi.NoEscape"], unfollowed := true, recurses := true, apart := false }
def SealStarsSaid : Prop := sealStarsRow.holds Tryz.pinned (OpenSpec.ofChange sealStarsSpec)

/-- ITS FALSE NEIGHBOUR: 'it returns false'. Refute it at one input. -/
def sealStarsWrong : ChangeSpec := { name := "sealStars", fn := fun _ => fun
  | [d1, d2, d3, d4, d5, d6, d7] => { results := [.lit (.bool false)], args := [d1, d2, d3, d4, d5, d6, d7] }
  | _ => none }
def SealStarsWrongFalsely : Prop := sealStarsRow.holds Tryz.pinned (OpenSpec.ofChange sealStarsWrong)

/- THE SECOND FORM. 'bulk': how many values and letters a reading holds, each counted each time it is reached (what is shared counts as often as it is met; a slice's spare places count too). A statement '..UptoSaid' is the law's where the arguments, and the package variables that the reading takes, are together of bulk at most 1048576: NARROWER than '..Said'. Prove '..Said' where nothing that the law and all that it calls make is longer than what came in: it says more and counts as full. Else prove '..UptoSaid'. A law counts once. -/
mutual
def uptoBulk {H : Type} : DataW H → Nat
  | .lit (.string bytes) => bytes.length + 1
  | .lit _ => 1
  | .nil => 1
  | .ptr d => uptoBulk d + 1
  | .slice elems spare => uptoBulkAll elems + uptoBulkAll spare + 1
  | .agg parts => uptoBulkAll parts + 1
  | .iface _ d => uptoBulk d + 1
  | .map entries => uptoBulkEntries entries + 1
  | .held _ => 1
def uptoBulkAll {H : Type} : List (DataW H) → Nat
  | [] => 0
  | d :: r => uptoBulk d + uptoBulkAll r
def uptoBulkEntries {H : Type} : List (Lit × DataW H) → Nat
  | [] => 0
  | x :: r => uptoBulkEntry x + uptoBulkEntries r
def uptoBulkEntry {H : Type} : Lit × DataW H → Nat
  | (.string bytes, d) => bytes.length + uptoBulk d + 1
  | (_, d) => uptoBulk d + 1
 end
def uptoSmall : (H : Type) → List (DataW H) → Bool := fun _ ds => decide (uptoBulkAll ds ≤ 1048576)
def OpenSpec.upto (s : _root_.Go.ChangeSpec) : _root_.Go.OpenSpec := { _root_.Go.OpenSpec.ofChange s with cond := some uptoSmall }

/-- 'gazetteerlaw4.ProofJudges', WHERE WHAT IT READS IS OF BULK AT MOST 1048576: true; the input reads as it did. -/
def proofJudgesUptoRow : OpenClaim := { program := "ytflijhodlimjoaagreat", sum := "ef5a364ff2dd5d78cc132094f276d864eca10a8a0e83e21e6d45bcb114394bf6", func := "gazetteer/gazetteerlaw4.ProofJudges", spec := "proofJudges", inPlace := ["internal/abi.NoEscape", "internal/bytealg.abigen_runtime_cmpstring", "internal/bytealg.IndexByteString"], unfollowed := true, recurses := true, apart := false, narrowed := true }
def ProofJudgesUptoSaid : Prop := proofJudgesUptoRow.holds Tryz.pinned (OpenSpec.upto proofJudgesSpec)

/-- 'gazetteerlaw4.SealSigns', WHERE WHAT IT READS IS OF BULK AT MOST 1048576: true; the input reads as it did. -/
def sealSignsUptoRow : OpenClaim := { program := "ytflijhodlimjoaagreat", sum := "ef5a364ff2dd5d78cc132094f276d864eca10a8a0e83e21e6d45bcb114394bf6", func := "gazetteer/gazetteerlaw4.SealSigns", spec := "sealSigns", inPlace := ["internal/abi.NoEscape"], unfollowed := true, recurses := true, apart := false, narrowed := true }
def SealSignsUptoSaid : Prop := sealSignsUptoRow.holds Tryz.pinned (OpenSpec.upto sealSignsSpec)

/-- 'gazetteerlaw4.SealVerifies', WHERE WHAT IT READS IS OF BULK AT MOST 1048576: true; the input reads as it did. -/
def sealVerifiesUptoRow : OpenClaim := { program := "ytflijhodlimjoaagreat", sum := "ef5a364ff2dd5d78cc132094f276d864eca10a8a0e83e21e6d45bcb114394bf6", func := "gazetteer/gazetteerlaw4.SealVerifies", spec := "sealVerifies", inPlace := ["internal/abi.NoEscape"], unfollowed := true, recurses := true, apart := false, narrowed := true }
def SealVerifiesUptoSaid : Prop := sealVerifiesUptoRow.holds Tryz.pinned (OpenSpec.upto sealVerifiesSpec)

/-- 'gazetteerlaw4.SealRounds', WHERE WHAT IT READS IS OF BULK AT MOST 1048576: true; the input reads as it did. -/
def sealRoundsUptoRow : OpenClaim := { program := "ytflijhodlimjoaagreat", sum := "ef5a364ff2dd5d78cc132094f276d864eca10a8a0e83e21e6d45bcb114394bf6", func := "gazetteer/gazetteerlaw4.SealRounds", spec := "sealRounds", inPlace := ["internal/abi.NoEscape"], unfollowed := true, recurses := true, apart := false, narrowed := true }
def SealRoundsUptoSaid : Prop := sealRoundsUptoRow.holds Tryz.pinned (OpenSpec.upto sealRoundsSpec)

/-- 'gazetteerlaw4.SealStars', WHERE WHAT IT READS IS OF BULK AT MOST 1048576: true; the input reads as it did. -/
def sealStarsUptoRow : OpenClaim := { program := "ytflijhodlimjoaagreat", sum := "ef5a364ff2dd5d78cc132094f276d864eca10a8a0e83e21e6d45bcb114394bf6", func := "gazetteer/gazetteerlaw4.SealStars", spec := "sealStars", inPlace := ["internal/abi.NoEscape"], unfollowed := true, recurses := true, apart := false, narrowed := true }
def SealStarsUptoSaid : Prop := sealStarsUptoRow.holds Tryz.pinned (OpenSpec.upto sealStarsSpec)

end Rows
end Go.Proofs.YtflijhodlimjoaaGreat
