/- data.To32: walk. -/
import Derived.Test.YtanoiiodnddkfaaGreatJ8
import Derived.Laws.BitsLemmas
namespace Go.Proofs.YtanoiiodnddkfaaGreat.to32
open Go.RowKit Go.Proofs.YtanoiiodnddkfaaGreat.kit Go.Proofs.YtanoiiodnddkfaaGreat.bits Go.Proofs.YtanoiiodnddkfaaGreat.bld

def set32 : List UInt8 := [48, 49, 50, 51, 52, 53, 54, 55, 56, 57, 97, 98, 99, 100, 101, 102, 103, 104, 105, 106, 107, 108, 109, 110, 111, 112, 113, 114, 115, 116, 117, 118]
def to32S (d : List UInt8) : List UInt8 := enc 5 set32 (bitsL d)

theorem wraps31 (n : Int) (h₀ : 0 ≤ n) (h₁ : n < 2 ^ 31) : IntKind.i64.wrap n = n := by rw [IntKind.wrap_i64]; omega
theorem or8 {x y : Int} (hx₀ : 0 ≤ x) (hx : x % 256 = 0) (hx₁ : x < 2147483648) (h₀ : 0 ≤ y) (h₁ : y < 256) : bits .or .i64 x y = x + y :=
  bits_join .i64 31 (by decide) wraps31 8 x y hx₀ hx hx₁ h₀ h₁ (by omega)
theorem and4095 {x : Int} (h₀ : 0 ≤ x) (h₁ : x < 2147483648) : bits .and .i64 x 4095 = x % 4096 := bits_mask .i64 31 (by decide) wraps31 12 (by decide) x h₀ h₁
theorem and31 {x : Int} (h₀ : 0 ≤ x) (h₁ : x < 2147483648) : bits .and .i64 x 31 = x % 32 := bits_mask .i64 31 (by decide) wraps31 5 (by decide) x h₀ h₁

theorem idx32 (v : Nat) (h : v < 32) : Value.int .u8 (((⟨#[48, 49, 50, 51, 52, 53, 54, 55, 56, 57, 97, 98, 99, 100, 101, 102, 103, 104, 105, 106, 107, 108, 109, 110, 111, 112, 113, 114, 115, 116, 117, 118]⟩ : ByteArray)[v]'h).toNat : Int) = Value.int .u8 ((set32.getD v 0).toNat : Int) := by
  rw [← getD_at]; rfl

end Go.Proofs.YtanoiiodnddkfaaGreat.to32
