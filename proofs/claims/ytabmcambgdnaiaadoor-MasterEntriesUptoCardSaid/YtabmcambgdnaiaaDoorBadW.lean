/- (*master.scanner).bad: walk. -/
import Derived.Test.YtabmcambgdnaiaaDoorTokW
namespace Go.Proofs.YtabmcambgdnaiaaDoor.badW
open Go.RowKit Go.Proofs.YtabmcambgdnaiaaDoor.kit Go.Proofs.YtabmcambgdnaiaaDoor.entP
set_option linter.unusedVariables false

set_option maxRecDepth 100000 in
theorem bad_any (X : Nat) (cd ln : Int) (w : World) : Calls Tryd.prog 37 #[.pointer (some ⟨X, 0, none⟩), .int .i64 cd, .int .i64 ln] w fun e w' => e = .returned (.iface 69 (.pointer (some ⟨w.heap.size, 0, none⟩))) ∧ w' = w.alloc (.cells #[.int .i64 cd, .string ⟨#[]⟩, .int .i64 ln] 73) := by
  go_enter Tryd.func37, Tryd.ntmps37
  go_wp2_with fail
  go_ret
  exact ⟨rfl, rfl⟩
end Go.Proofs.YtabmcambgdnaiaaDoor.badW
