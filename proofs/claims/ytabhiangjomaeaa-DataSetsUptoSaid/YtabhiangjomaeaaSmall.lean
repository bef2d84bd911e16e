/- Bytes as a number: data.small: walk. -/
import Derived.Test.YtabhiangjomaeaaVal
namespace Go.Proofs.Ytabhiangjomaeaa.small
open Go.RowKit Go.Proofs.Ytabhiangjomaeaa.kit Go.Proofs.Ytabhiangjomaeaa.val
set_option linter.unusedVariables false

set_option maxRecDepth 100000 in
set_option maxHeartbeats 1000000 in
theorem small_any (s : ByteArray) (w : World) (hs : s.size ≤ 4) :
    Calls Try.prog 165 #[.string s] w fun e w' => e = .returned (.int .i64 ((valL s.data.toList 0 : Nat) : Int)) ∧ w = w' := by
  obtain ⟨F, HF⟩ : ∃ F, Hid (valL (s.data.toList.drop 0) 0 = F) := ⟨_, Lib.hid rfl⟩
  rw [show s.data.toList = s.data.toList.drop 0 from rfl, HF.out]
  go_enter Try.func165, Try.ntmps165
  go_wp2
  go_loopg [3, 4, 7] (s.size + 1) (fun gas sv _ kv wr => ∃ (k S : Nat), kv = .int .i64 k ∧ sv = .int .i64 S ∧ k ≤ s.size ∧ k + gas = s.size + 1 ∧ S < 1099511627776 ∧ Hid (S < 256 ^ k) ∧ Hid (valL (s.data.toList.drop k) S = F) ∧ w = wr)
  case atStart => exact ⟨0, 0, rfl, rfl, by omega, by omega, by omega, Lib.hid (by decide), HF, rfl⟩
  case round =>
    obtain ⟨k, S, rfl, rfl, hk, hkg, hS, HP, HW, rfl⟩ := hrel
    have HK := Lib.hid hkg; clear hkg
    by_cases hlt : k < s.size
    · obtain ⟨c, hc⟩ : ∃ c, s[k] = c := ⟨_, rfl⟩
      have hc256 := byte_lt c
      have HW2 : Hid (valL (s.data.toList.drop (k + 1)) (S * 256 + c.toNat) = F) := Lib.hid (by rw [← HW.out, drop_cons s k hlt, hc, valL])
      have HP2 : Hid (S * 256 + c.toNat < 256 ^ (k + 1)) := Lib.hid (by have := HP.out; rw [Nat.pow_succ]; omega)
      have hb : S * 256 + c.toNat < 1099511627776 := by
        have h1 := HP2.out
        have h2 : 256 ^ (k + 1) ≤ 256 ^ 4 := Nat.pow_le_pow_right (n := 256) (by omega) (show k + 1 ≤ 4 by omega)
        omega
      have x1 := congrArg (Value.int .i64) (or8b (x := (S : Int) * 256) (y := (c.toNat : Int)) (by omega) (by omega) (by omega) (by omega) hc256)
      go_wp2
      have hkg := HK.out
      clear x1
      go_roundg (gk - 1)
      case rel => exact ⟨k + 1, S * 256 + c.toNat, by go_num, (by first | rfl | go_num | (rw [or8b (by omega) (by omega) (by omega) (by omega) hc256]; congr 1; omega) | (rw [or8b (by omega) (by omega) (by omega) (by omega) hc256]; go_num)), by omega, by omega, hb, HP2, HW2, rfl⟩
      case measure => omega
    · have HN := HW.out
      rw [drop_end s k (by omega)] at HN
      have hSF : S = F := HN
      subst hSF
      clear HN
      go_wp2
      go_ret
      exact ⟨rfl, rfl⟩
end Go.Proofs.Ytabhiangjomaeaa.small
