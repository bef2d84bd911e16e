/- signer.age: walk. -/
import Derived.Test.YtnamkladeaohoaaK2
import Derived.OwnWalk
namespace Go.Proofs.Ytnamkladeaohoaa.age
open Go.RowKit Go.Proofs.Ytnamkladeaohoaa.kit Go.Proofs.Ytnamkladeaohoaa.safeP
set_option linter.unusedVariables false

def ageB (v : Int) : Bool := decide (0 ≤ v) && decide (v ≤ 2147483647)
set_option maxRecDepth 100000 in
theorem age_any (v : Int) (w : World) : Calls Try.prog 12 #[.int .i64 v] w fun e w' => e = .returned (.bool (ageB v)) ∧ w' = w := by
  unfold ageB
  by_cases h1 : 0 ≤ v
  · have e1 : decide (0 ≤ v) = true := decide_eq_true h1
    by_cases h2 : v ≤ 2147483647
    · have e2 : decide (v ≤ 2147483647) = true := decide_eq_true h2
      rw [e1, e2]
      go_enter Try.func12, Try.ntmps12
      go_wp2_with fail
      go_ret
      exact ⟨rfl, rfl⟩
    · have e2 : decide (v ≤ 2147483647) = false := decide_eq_false h2
      rw [e1, e2]
      go_enter Try.func12, Try.ntmps12
      go_wp2_with fail
      go_ret
      exact ⟨rfl, rfl⟩
  · have e1 : decide (0 ≤ v) = false := decide_eq_false h1
    rw [e1, Bool.false_and]
    go_enter Try.func12, Try.ntmps12
    go_wp2_with fail
    go_ret
    exact ⟨rfl, rfl⟩
end Go.Proofs.Ytnamkladeaohoaa.age
