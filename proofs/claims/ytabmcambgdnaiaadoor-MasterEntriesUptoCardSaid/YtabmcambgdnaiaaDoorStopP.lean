/- The texts of bytes that end a word: plain. -/
import Derived.Test.YtabmcambgdnaiaaDoorWordW
import Derived.Lib.IndexAny
namespace Go.Proofs.YtabmcambgdnaiaaDoor.stopP
open Go.RowKit Go.Proofs.YtabmcambgdnaiaaDoor.entP Go.Proofs.YtabmcambgdnaiaaDoor.wordW
set_option linter.unusedVariables false

theorem neg_iff (l : List UInt8) (c : UInt8) : Lib.indexByte l c < 0 ↔ l.contains c = false := by
  rw [Lib.contains_iff_indexByte, decide_eq_false_iff_not]; omega
theorem stop_q : StopT true ⟨#[34, 10]⟩ := by
  intro c
  rw [neg_iff]
  show ([34, 10] : List UInt8).contains c = false ↔ _
  simp [stopB]
theorem stop_w : StopT false ⟨#[32, 9, 13, 10, 59, 40, 41, 34]⟩ := by
  intro c
  rw [neg_iff]
  show ([32, 9, 13, 10, 59, 40, 41, 34] : List UInt8).contains c = false ↔ _
  simp [stopB, blankB, and_assoc]
end Go.Proofs.YtabmcambgdnaiaaDoor.stopP
