/- Bytes as a number: seal.number, gazetteerref1.Value: walks. -/
import Derived.Test.YtjejmgdpjfdhjaaDoorTo32
namespace Go.Proofs.YtjejmgdpjfdhjaaDoor.val
open Go.RowKit Go.Proofs.YtjejmgdpjfdhjaaDoor.kit
set_option linter.unusedVariables false

def valL : List UInt8 → Nat → Nat
  | [], v => v
  | c :: r, v => valL r (v * 256 + c.toNat)
theorem wraps62 (n : Int) (h₀ : 0 ≤ n) (h₁ : n < 2 ^ 62) : IntKind.i64.wrap n = n := by rw [IntKind.wrap_i64]; omega
theorem or8b {x y : Int} (hx₀ : 0 ≤ x) (hx : x % 256 = 0) (hx₁ : x < 4611686018427387904) (h₀ : 0 ≤ y) (h₁ : y < 256) : bits .or .i64 x y = x + y :=
  bits_join .i64 62 (by decide) wraps62 8 x y hx₀ hx hx₁ h₀ h₁ (by omega)

end Go.Proofs.YtjejmgdpjfdhjaaDoor.val
