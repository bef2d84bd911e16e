/- Bytes as a number: seal.number, gazetteerref1.Value: walks. -/
import Derived.Test.YtabhiangjomaeaaTo32
namespace Go.Proofs.Ytabhiangjomaeaa.val
open Go.RowKit Go.Proofs.Ytabhiangjomaeaa.kit
set_option linter.unusedVariables false

def valL : List UInt8 → Nat → Nat
  | [], v => v
  | c :: r, v => valL r (v * 256 + c.toNat)
theorem wraps62 (n : Int) (h₀ : 0 ≤ n) (h₁ : n < 2 ^ 62) : IntKind.i64.wrap n = n := by rw [IntKind.wrap_i64]; omega
theorem or8b {x y : Int} (hx₀ : 0 ≤ x) (hx : x % 256 = 0) (hx₁ : x < 4611686018427387904) (h₀ : 0 ≤ y) (h₁ : y < 256) : bits .or .i64 x y = x + y :=
  bits_join .i64 62 (by decide) wraps62 8 x y hx₀ hx hx₁ h₀ h₁ (by omega)

set_option maxRecDepth 100000 in
set_option maxHeartbeats 1000000 in
theorem rvalue_any (s : ByteArray) (w : World) (hs : s.size ≤ 4) :
    Calls Try.prog 66 #[.string s] w fun e w' => e = .returned (.int .i64 ((valL s.data.toList 0 : Nat) : Int)) ∧ w = w' := by
  obtain ⟨F, HF⟩ : ∃ F, Hid (valL (s.data.toList.drop 0) 0 = F) := ⟨_, Lib.hid rfl⟩
  rw [show s.data.toList = s.data.toList.drop 0 from rfl, HF.out]
  go_enter Try.func66, Try.ntmps66
  go_wp2
  go_loopg [3, 4] (s.size + 1) (fun gas sv kv wr => ∃ (k S : Nat), kv = .int .i64 k ∧ sv = .int .i64 S ∧ k ≤ s.size ∧ k + gas = s.size + 1 ∧ S < 1099511627776 ∧ Hid (S < 256 ^ k) ∧ Hid (valL (s.data.toList.drop k) S = F) ∧ w = wr)
  case atStart => exact ⟨0, 0, rfl, rfl, by omega, by omega, by omega, Lib.hid (by decide), HF, rfl⟩
  case round =>
    obtain ⟨k, S, rfl, rfl, hk, hkg, hS, HP, HW, rfl⟩ := hrel
    have HK := Lib.hid hkg; clear hkg
    by_cases hlt : k < s.size
    · obtain ⟨c, hc⟩ : ∃ c, s[k] = c := ⟨_, rfl⟩
      have hc256 := byte_lt c
      have HW2 : Hid (valL (s.data.toList.drop (k + 1)) (S * 256 + c.toNat) = F) := Lib.hid (by rw [← HW.out, drop_cons s k hlt, hc, valL])
      have HP2 : Hid (S * 256 + c.toNat < 256 ^ (k + 1)) := Lib.hid (by have := HP.out; rw [Nat.pow_succ]; omega)
      have hb : S * 256 + c.toNat < 1099511627776 := by
        have h1 := HP2.out
        have h2 : 256 ^ (k + 1) ≤ 256 ^ 4 := Nat.pow_le_pow_right (n := 256) (by omega) (show k + 1 ≤ 4 by omega)
        omega
      go_wp2
      have hkg := HK.out
      go_roundg (gk - 1)
      case rel => exact ⟨k + 1, S * 256 + c.toNat, by go_num, (by first | rfl | go_num | (congr 1; omega)), by omega, by omega, hb, HP2, HW2, rfl⟩
      case measure => omega
    · have HN := HW.out
      rw [drop_end s k (by omega)] at HN
      have hSF : S = F := HN
      subst hSF
      clear HN
      go_wp2
      go_ret
      exact ⟨rfl, rfl⟩

end Go.Proofs.Ytabhiangjomaeaa.val
