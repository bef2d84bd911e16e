/- Tag of seal and of the reference; number, Value: walks. -/
import Derived.Test.YtjflojefpaffeaaTo32
namespace Go.Proofs.Ytjflojefpaffeaa.tag
open Go.RowKit Go.Proofs.Ytjflojefpaffeaa.kit Go.Proofs.Ytjflojefpaffeaa.to32
set_option linter.unusedVariables false

/-- the sum: every other byte from the first on counts 256 times -/
def tagL : Nat → List UInt8 → Nat → Nat
  | _, [], s => s
  | k, c :: r, s => tagL (k + 1) r (s + (if k % 2 = 0 then c.toNat * 256 else c.toNat))
def tagS (l : List UInt8) : Nat := (tagL 0 l 0 + tagL 0 l 0 / 65536) % 65536

set_option maxRecDepth 100000 in
set_option maxHeartbeats 1000000 in
theorem rtag_any (s : ByteArray) (w : World) (hs : s.size ≤ 1099511627776) :
    Calls Try.prog 72 #[.string s] w fun e w' => e = .returned (.int .i64 ((tagS s.data.toList : Nat) : Int)) ∧ w = w' := by
  obtain ⟨F, HF⟩ : ∃ F, Hid (tagL 0 (s.data.toList.drop 0) 0 = F) := ⟨_, Lib.hid rfl⟩
  have HR : Hid (tagS s.data.toList = (F + F / 65536) % 65536) := Lib.hid (by rw [← HF.out]; rfl)
  rw [HR.out]
  go_enter Try.func72, Try.ntmps72
  go_wp2
  go_loopg [3, 4] (s.size + 1) (fun gas sv kv wr => ∃ (k S : Nat), kv = .int .i64 k ∧ sv = .int .i64 S ∧ k ≤ s.size ∧ k + gas = s.size + 1 ∧ S ≤ 65536 * k ∧ Hid (tagL k (s.data.toList.drop k) S = F) ∧ w = wr)
  case atStart => exact ⟨0, 0, rfl, rfl, by omega, by omega, by omega, HF, rfl⟩
  case round =>
    obtain ⟨k, S, rfl, rfl, hk, hkg, hS, HW, rfl⟩ := hrel
    have HK := Lib.hid hkg; clear hkg
    by_cases hlt : k < s.size
    · obtain ⟨c, hc⟩ : ∃ c, s[k] = c := ⟨_, rfl⟩
      have hc256 := byte_lt c
      have hstep : tagL k (s.data.toList.drop k) S = tagL (k + 1) (s.data.toList.drop (k + 1)) (S + (if k % 2 = 0 then c.toNat * 256 else c.toNat)) := by
        rw [drop_cons s k hlt, hc, tagL]
      by_cases hp : k % 2 = 0
      · rw [if_pos hp] at hstep
        have HW2 : Hid (tagL (k + 1) (s.data.toList.drop (k + 1)) (S + c.toNat * 256) = F) := Lib.hid (by rw [← HW.out, hstep])
        have hb : ((k : Int) % 2 == 0) = true := by rw [beq_iff_eq]; omega
        clear hstep hp
        go_wp2
        have hkg := HK.out
        go_roundg (gk - 1)
        case rel => exact ⟨k + 1, S + c.toNat * 256, by go_num, (by first | rfl | go_num | (congr 1; omega)), by omega, by omega, by omega, HW2, rfl⟩
        case measure => omega
      · rw [if_neg hp] at hstep
        have HW2 : Hid (tagL (k + 1) (s.data.toList.drop (k + 1)) (S + c.toNat) = F) := Lib.hid (by rw [← HW.out, hstep])
        have hb : ((k : Int) % 2 == 0) = false := by rw [beq_eq_false_iff_ne]; omega
        clear hstep hp
        go_wp2
        have hkg := HK.out
        go_roundg (gk - 1)
        case rel => exact ⟨k + 1, S + c.toNat, by go_num, (by first | rfl | go_num | (congr 1; omega)), by omega, by omega, by omega, HW2, rfl⟩
        case measure => omega
    · have HN := HW.out
      rw [drop_end s k (by omega)] at HN
      have hSF : S = F := HN
      subst hSF
      clear HN
      go_wp2
      go_ret
      exact ⟨ret_int (by omega), rfl⟩

set_option maxRecDepth 100000 in
set_option maxHeartbeats 1000000 in
theorem ntag_any (s : ByteArray) (w : World) (hs : s.size ≤ 1099511627776) :
    Calls Try.prog 71 #[.string s] w fun e w' => e = .returned (.int .i64 ((tagS s.data.toList : Nat) : Int)) ∧ w = w' := by
  obtain ⟨F, HF⟩ : ∃ F, Hid (tagL 0 (s.data.toList.drop 0) 0 = F) := ⟨_, Lib.hid rfl⟩
  have HR : Hid (tagS s.data.toList = (F + F / 65536) % 65536) := Lib.hid (by rw [← HF.out]; rfl)
  rw [HR.out]
  go_enter Try.func71, Try.ntmps71
  go_wp2
  go_loopg [3, 4, 7] (s.size + 1) (fun gas sv _ kv wr => ∃ (k S : Nat), kv = .int .i64 k ∧ sv = .int .i64 S ∧ k ≤ s.size ∧ k + gas = s.size + 1 ∧ S ≤ 65536 * k ∧ Hid (tagL k (s.data.toList.drop k) S = F) ∧ w = wr)
  case atStart => exact ⟨0, 0, rfl, rfl, by omega, by omega, by omega, HF, rfl⟩
  case round =>
    obtain ⟨k, S, rfl, rfl, hk, hkg, hS, HW, rfl⟩ := hrel
    have HK := Lib.hid hkg; clear hkg
    by_cases hlt : k < s.size
    · obtain ⟨c, hc⟩ : ∃ c, s[k] = c := ⟨_, rfl⟩
      have hc256 := byte_lt c
      obtain ⟨C, hC⟩ : ∃ C, (if k % 2 = 0 then c.toNat * 256 else c.toNat) = C := ⟨_, rfl⟩
      have HW2 : Hid (tagL (k + 1) (s.data.toList.drop (k + 1)) (S + C) = F) := Lib.hid (by rw [← HW.out, drop_cons s k hlt, hc, tagL, hC])
      obtain ⟨e, he⟩ : ∃ e, 8 * (1 - k % 2) = e := ⟨_, rfl⟩
      have he8 : (e : Int) ≤ 8 := by omega
      have x1 : Value.int .i64 (8 * (1 - (k : Int) % 2)) = Value.int .i64 (e : Int) := by congr 1; omega
      have hCe : c.toNat * 2 ^ e = C := by
        rw [← hC]
        by_cases hp : k % 2 = 0
        · rw [if_pos hp, show e = 8 by omega]
        · rw [if_neg hp, show e = 0 by omega]; simp
      have hC6 : C ≤ 65280 := by
        rw [← hC]
        by_cases hp : k % 2 = 0
        · rw [if_pos hp]; omega
        · rw [if_neg hp]; omega
      have x2 : Value.int .i64 (wrap64 ((c.toNat : Int) * 2 ^ e)) = Value.int .i64 (C : Int) := by
        have h5 : (c.toNat : Int) * 2 ^ e = (C : Int) := by rw [← hCe]; simp
        rw [h5, IntWalk.wrap64_in _ (by omega)]
      clear hC he hCe
      go_wp2
      have hkg := HK.out
      go_roundg (gk - 1)
      case rel => exact ⟨k + 1, S + C, by go_num, by go_num, by omega, by omega, by omega, HW2, rfl⟩
      case measure => omega
    · have HN := HW.out
      rw [drop_end s k (by omega)] at HN
      have hSF : S = F := HN
      subst hSF
      clear HN
      have HX : Hid (Value.int .i64 (bits .and .i64 ((S : Int) + (S : Int) / 65536) 65535) = Value.int .i64 (((S + S / 65536) % 65536 : Nat) : Int)) := Lib.hid (by
        have em := bits_mask .i64 62 (by decide) (fun n h0 h1 => by rw [IntKind.wrap_i64]; omega) 16 (by decide) ((S : Int) + (S : Int) / 65536) (by omega) (by omega)
        rw [show (2 : Int) ^ 16 - 1 = 65535 from rfl] at em
        rw [em]; first | rfl | (congr 1; omega) | congr 1)
      go_wp2
      go_ret
      exact ⟨by first | exact congrArg Ending.returned HX.out | (rw [HX.out]), rfl⟩
end Go.Proofs.Ytjflojefpaffeaa.tag
