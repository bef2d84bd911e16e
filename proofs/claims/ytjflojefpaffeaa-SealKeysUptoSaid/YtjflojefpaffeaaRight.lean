/- Which numbers are a key: seal.right, gazetteerref4.RightKey: walks. -/
import Derived.Test.YtjflojefpaffeaaKit
namespace Go.Proofs.Ytjflojefpaffeaa.right
open Go.RowKit Go.Proofs.Ytjflojefpaffeaa.kit
set_option linter.unusedVariables false

def someB (v low : Int) : Bool := decide (low ≤ v) && decide (v ≤ 2147483647)
theorem some_yes {v low : Int} (h1 : low ≤ v) (h2 : v ≤ 2147483647) : someB v low = true := by unfold someB; simp [h1, h2]
theorem some_no {v low : Int} (h : v < low ∨ 2147483647 < v) : someB v low = false := by
  unfold someB; rw [Bool.and_eq_false_iff, decide_eq_false_iff_not, decide_eq_false_iff_not]; omega
def rightB (f m e s : Int) : Bool := (f == 256 || f == 257) && someB m 6 && someB e 1 && someB s 1

set_option maxRecDepth 100000 in
theorem small_any (v low : Int) (w : World) : Calls Try.prog 117 #[.int .i64 v, .int .i64 low] w fun e w' => e = .returned (.bool (someB v low)) ∧ w = w' := by
  by_cases h1 : low ≤ v
  · by_cases h2 : v ≤ 2147483647
    · have H := Lib.hid (some_yes h1 h2)
      go_enter Try.func117, Try.ntmps117
      go_wp2
      go_ret
      exact ⟨by rw [H.out]; rfl, rfl⟩
    · have H := Lib.hid (some_no (v := v) (low := low) (.inr (by omega)))
      have h2 : 2147483647 < v := by omega
      go_enter Try.func117, Try.ntmps117
      go_wp2
      go_ret
      exact ⟨by rw [H.out]; rfl, rfl⟩
  · have H := Lib.hid (some_no (v := v) (low := low) (.inl (by omega)))
    have h1 : v < low := by omega
    go_enter Try.func117, Try.ntmps117
    go_wp2
    go_ret
    exact ⟨by rw [H.out]; rfl, rfl⟩
set_option maxRecDepth 100000 in
theorem some_any (v low : Int) (w : World) : Calls Try.prog 118 #[.int .i64 v, .int .i64 low] w fun e w' => e = .returned (.bool (someB v low)) ∧ w = w' := by
  by_cases h1 : low ≤ v
  · by_cases h2 : v ≤ 2147483647
    · have H := Lib.hid (some_yes h1 h2)
      go_enter Try.func118, Try.ntmps118
      go_wp2
      go_ret
      exact ⟨by rw [H.out]; rfl, rfl⟩
    · have H := Lib.hid (some_no (v := v) (low := low) (.inr (by omega)))
      have h2 : 2147483647 < v := by omega
      go_enter Try.func118, Try.ntmps118
      go_wp2
      go_ret
      exact ⟨by rw [H.out]; rfl, rfl⟩
  · have H := Lib.hid (some_no (v := v) (low := low) (.inl (by omega)))
    have h1 : v < low := by omega
    go_enter Try.func118, Try.ntmps118
    go_wp2
    go_ret
    exact ⟨by rw [H.out]; rfl, rfl⟩
end Go.Proofs.Ytjflojefpaffeaa.right
