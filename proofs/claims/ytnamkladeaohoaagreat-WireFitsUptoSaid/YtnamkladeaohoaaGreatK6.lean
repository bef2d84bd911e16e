/- data.To32: walk. Bytes as a number: seal.number, gazetteerref1.Value: walks. Bytes as a number: data.small: walk. How many bytes a field takes: the short ones of data: walks. data.Types: walk. How many bytes a set of types takes: data.kinds.take: walk. The reference's Split, IsName, Check: walks. Small letters: gazetteerref1.Low, and Number. -/
import Derived.Test.YtnamkladeaohoaaGreatK2
import Derived.Test.YtnamkladeaohoaaGreatK5
import Derived.Test.YtnamkladeaohoaaGreatK3
import Derived.Test.YtnamkladeaohoaaGreatK4
import Derived.Test.YtnamkladeaohoaaGreatK1
import Derived.Laws.BitsLemmas
import Derived.Maps.AppendAt
namespace Go.Proofs.YtnamkladeaohoaaGreat.to32
open Go.RowKit Go.Proofs.YtnamkladeaohoaaGreat.kit Go.Proofs.YtnamkladeaohoaaGreat.bits Go.Proofs.YtnamkladeaohoaaGreat.bld

def set32 : List UInt8 := [48, 49, 50, 51, 52, 53, 54, 55, 56, 57, 97, 98, 99, 100, 101, 102, 103, 104, 105, 106, 107, 108, 109, 110, 111, 112, 113, 114, 115, 116, 117, 118]
def to32S (d : List UInt8) : List UInt8 := enc 5 set32 (bitsL d)

theorem wraps31 (n : Int) (h₀ : 0 ≤ n) (h₁ : n < 2 ^ 31) : IntKind.i64.wrap n = n := by rw [IntKind.wrap_i64]; omega
theorem or8 {x y : Int} (hx₀ : 0 ≤ x) (hx : x % 256 = 0) (hx₁ : x < 2147483648) (h₀ : 0 ≤ y) (h₁ : y < 256) : bits .or .i64 x y = x + y :=
  bits_join .i64 31 (by decide) wraps31 8 x y hx₀ hx hx₁ h₀ h₁ (by omega)
theorem and4095 {x : Int} (h₀ : 0 ≤ x) (h₁ : x < 2147483648) : bits .and .i64 x 4095 = x % 4096 := bits_mask .i64 31 (by decide) wraps31 12 (by decide) x h₀ h₁
theorem and31 {x : Int} (h₀ : 0 ≤ x) (h₁ : x < 2147483648) : bits .and .i64 x 31 = x % 32 := bits_mask .i64 31 (by decide) wraps31 5 (by decide) x h₀ h₁

theorem idx32 (v : Nat) (h : v < 32) : Value.int .u8 (((⟨#[48, 49, 50, 51, 52, 53, 54, 55, 56, 57, 97, 98, 99, 100, 101, 102, 103, 104, 105, 106, 107, 108, 109, 110, 111, 112, 113, 114, 115, 116, 117, 118]⟩ : ByteArray)[v]'h).toNat : Int) = Value.int .u8 ((set32.getD v 0).toNat : Int) := by
  rw [← getD_at]; rfl

end Go.Proofs.YtnamkladeaohoaaGreat.to32
namespace Go.Proofs.YtnamkladeaohoaaGreat.val
open Go.RowKit Go.Proofs.YtnamkladeaohoaaGreat.kit
set_option linter.unusedVariables false

def valL : List UInt8 → Nat → Nat
  | [], v => v
  | c :: r, v => valL r (v * 256 + c.toNat)
theorem wraps62 (n : Int) (h₀ : 0 ≤ n) (h₁ : n < 2 ^ 62) : IntKind.i64.wrap n = n := by rw [IntKind.wrap_i64]; omega
theorem or8b {x y : Int} (hx₀ : 0 ≤ x) (hx : x % 256 = 0) (hx₁ : x < 4611686018427387904) (h₀ : 0 ≤ y) (h₁ : y < 256) : bits .or .i64 x y = x + y :=
  bits_join .i64 62 (by decide) wraps62 8 x y hx₀ hx hx₁ h₀ h₁ (by omega)

set_option maxRecDepth 100000 in
set_option maxHeartbeats 1000000 in
theorem rvalue_any (s : ByteArray) (w : World) (hs : s.size ≤ 4) :
    Calls Tryz.prog 103 #[.string s] w fun e w' => e = .returned (.int .i64 ((valL s.data.toList 0 : Nat) : Int)) ∧ w = w' := by
  obtain ⟨F, HF⟩ : ∃ F, Hid (valL (s.data.toList.drop 0) 0 = F) := ⟨_, Lib.hid rfl⟩
  rw [show s.data.toList = s.data.toList.drop 0 from rfl, HF.out]
  go_enter Tryz.func103, Tryz.ntmps103
  go_wp2
  go_loopg [3, 4] (s.size + 1) (fun gas sv kv wr => ∃ (k S : Nat), kv = .int .i64 k ∧ sv = .int .i64 S ∧ k ≤ s.size ∧ k + gas = s.size + 1 ∧ S < 1099511627776 ∧ Hid (S < 256 ^ k) ∧ Hid (valL (s.data.toList.drop k) S = F) ∧ w = wr)
  case atStart => exact ⟨0, 0, rfl, rfl, by omega, by omega, by omega, Lib.hid (by decide), HF, rfl⟩
  case round =>
    obtain ⟨k, S, rfl, rfl, hk, hkg, hS, HP, HW, rfl⟩ := hrel
    have HK := Lib.hid hkg; clear hkg
    by_cases hlt : k < s.size
    · obtain ⟨c, hc⟩ : ∃ c, s[k] = c := ⟨_, rfl⟩
      have hc256 := byte_lt c
      have HW2 : Hid (valL (s.data.toList.drop (k + 1)) (S * 256 + c.toNat) = F) := Lib.hid (by rw [← HW.out, drop_cons s k hlt, hc, valL])
      have HP2 : Hid (S * 256 + c.toNat < 256 ^ (k + 1)) := Lib.hid (by have := HP.out; rw [Nat.pow_succ]; omega)
      have hb : S * 256 + c.toNat < 1099511627776 := by
        have h1 := HP2.out
        have h2 : 256 ^ (k + 1) ≤ 256 ^ 4 := Nat.pow_le_pow_right (n := 256) (by omega) (show k + 1 ≤ 4 by omega)
        omega
      go_wp2
      have hkg := HK.out
      go_roundg (gk - 1)
      case rel => exact ⟨k + 1, S * 256 + c.toNat, by go_num, (by first | rfl | go_num | (congr 1; omega)), by omega, by omega, hb, HP2, HW2, rfl⟩
      case measure => omega
    · have HN := HW.out
      rw [drop_end s k (by omega)] at HN
      have hSF : S = F := HN
      subst hSF
      clear HN
      go_wp2
      go_ret
      exact ⟨rfl, rfl⟩

set_option maxRecDepth 100000 in
set_option maxHeartbeats 1000000 in
theorem number_any (s : ByteArray) (w : World) (hs : s.size ≤ 4) :
    Calls Tryz.prog 99 #[.string s] w fun e w' => e = .returned (.int .i64 ((valL s.data.toList 0 : Nat) : Int)) ∧ w = w' := by
  obtain ⟨F, HF⟩ : ∃ F, Hid (valL (s.data.toList.drop 0) 0 = F) := ⟨_, Lib.hid rfl⟩
  rw [show s.data.toList = s.data.toList.drop 0 from rfl, HF.out]
  go_enter Tryz.func99, Tryz.ntmps99
  go_wp2
  go_loopg [3, 4, 7] (s.size + 1) (fun gas sv _ kv wr => ∃ (k S : Nat), kv = .int .i64 k ∧ sv = .int .i64 S ∧ k ≤ s.size ∧ k + gas = s.size + 1 ∧ S < 1099511627776 ∧ Hid (S < 256 ^ k) ∧ Hid (valL (s.data.toList.drop k) S = F) ∧ w = wr)
  case atStart => exact ⟨0, 0, rfl, rfl, by omega, by omega, by omega, Lib.hid (by decide), HF, rfl⟩
  case round =>
    obtain ⟨k, S, rfl, rfl, hk, hkg, hS, HP, HW, rfl⟩ := hrel
    have HK := Lib.hid hkg; clear hkg
    by_cases hlt : k < s.size
    · obtain ⟨c, hc⟩ : ∃ c, s[k] = c := ⟨_, rfl⟩
      have hc256 := byte_lt c
      have HW2 : Hid (valL (s.data.toList.drop (k + 1)) (S * 256 + c.toNat) = F) := Lib.hid (by rw [← HW.out, drop_cons s k hlt, hc, valL])
      have HP2 : Hid (S * 256 + c.toNat < 256 ^ (k + 1)) := Lib.hid (by have := HP.out; rw [Nat.pow_succ]; omega)
      have hb : S * 256 + c.toNat < 1099511627776 := by
        have h1 := HP2.out
        have h2 : 256 ^ (k + 1) ≤ 256 ^ 4 := Nat.pow_le_pow_right (n := 256) (by omega) (show k + 1 ≤ 4 by omega)
        omega
      have x1 := congrArg (Value.int .i64) (or8b (x := (S : Int) * 256) (y := (c.toNat : Int)) (by omega) (by omega) (by omega) (by omega) hc256)
      go_wp2
      have hkg := HK.out
      clear x1
      go_roundg (gk - 1)
      case rel => exact ⟨k + 1, S * 256 + c.toNat, by go_num, (by first | rfl | go_num | (rw [or8b (by omega) (by omega) (by omega) (by omega) hc256]; congr 1; omega) | (rw [or8b (by omega) (by omega) (by omega) (by omega) hc256]; go_num)), by omega, by omega, hb, HP2, HW2, rfl⟩
      case measure => omega
    · have HN := HW.out
      rw [drop_end s k (by omega)] at HN
      have hSF : S = F := HN
      subst hSF
      clear HN
      go_wp2
      go_ret
      exact ⟨rfl, rfl⟩
end Go.Proofs.YtnamkladeaohoaaGreat.val
namespace Go.Proofs.YtnamkladeaohoaaGreat.small
open Go.RowKit Go.Proofs.YtnamkladeaohoaaGreat.kit Go.Proofs.YtnamkladeaohoaaGreat.val
set_option linter.unusedVariables false

set_option maxRecDepth 100000 in
set_option maxHeartbeats 1000000 in
theorem small_any (s : ByteArray) (w : World) (hs : s.size ≤ 4) :
    Calls Tryz.prog 280 #[.string s] w fun e w' => e = .returned (.int .i64 ((valL s.data.toList 0 : Nat) : Int)) ∧ w = w' := by
  obtain ⟨F, HF⟩ : ∃ F, Hid (valL (s.data.toList.drop 0) 0 = F) := ⟨_, Lib.hid rfl⟩
  rw [show s.data.toList = s.data.toList.drop 0 from rfl, HF.out]
  go_enter Tryz.func280, Tryz.ntmps280
  go_wp2
  go_loopg [3, 4, 7] (s.size + 1) (fun gas sv _ kv wr => ∃ (k S : Nat), kv = .int .i64 k ∧ sv = .int .i64 S ∧ k ≤ s.size ∧ k + gas = s.size + 1 ∧ S < 1099511627776 ∧ Hid (S < 256 ^ k) ∧ Hid (valL (s.data.toList.drop k) S = F) ∧ w = wr)
  case atStart => exact ⟨0, 0, rfl, rfl, by omega, by omega, by omega, Lib.hid (by decide), HF, rfl⟩
  case round =>
    obtain ⟨k, S, rfl, rfl, hk, hkg, hS, HP, HW, rfl⟩ := hrel
    have HK := Lib.hid hkg; clear hkg
    by_cases hlt : k < s.size
    · obtain ⟨c, hc⟩ : ∃ c, s[k] = c := ⟨_, rfl⟩
      have hc256 := byte_lt c
      have HW2 : Hid (valL (s.data.toList.drop (k + 1)) (S * 256 + c.toNat) = F) := Lib.hid (by rw [← HW.out, drop_cons s k hlt, hc, valL])
      have HP2 : Hid (S * 256 + c.toNat < 256 ^ (k + 1)) := Lib.hid (by have := HP.out; rw [Nat.pow_succ]; omega)
      have hb : S * 256 + c.toNat < 1099511627776 := by
        have h1 := HP2.out
        have h2 : 256 ^ (k + 1) ≤ 256 ^ 4 := Nat.pow_le_pow_right (n := 256) (by omega) (show k + 1 ≤ 4 by omega)
        omega
      have x1 := congrArg (Value.int .i64) (or8b (x := (S : Int) * 256) (y := (c.toNat : Int)) (by omega) (by omega) (by omega) (by omega) hc256)
      go_wp2
      have hkg := HK.out
      clear x1
      go_roundg (gk - 1)
      case rel => exact ⟨k + 1, S * 256 + c.toNat, by go_num, (by first | rfl | go_num | (rw [or8b (by omega) (by omega) (by omega) (by omega) hc256]; congr 1; omega) | (rw [or8b (by omega) (by omega) (by omega) (by omega) hc256]; go_num)), by omega, by omega, hb, HP2, HW2, rfl⟩
      case measure => omega
    · have HN := HW.out
      rw [drop_end s k (by omega)] at HN
      have hSF : S = F := HN
      subst hSF
      clear HN
      go_wp2
      go_ret
      exact ⟨rfl, rfl⟩
end Go.Proofs.YtnamkladeaohoaaGreat.small
namespace Go.Proofs.YtnamkladeaohoaaGreat.takes
open Go.RowKit Go.Proofs.YtnamkladeaohoaaGreat.kit Go.Proofs.YtnamkladeaohoaaGreat.nspec Go.Proofs.YtnamkladeaohoaaGreat.val Go.Proofs.YtnamkladeaohoaaGreat.small Go.Proofs.YtnamkladeaohoaaGreat.fld
set_option linter.unusedVariables false

theorem emp_yes {s : ByteArray} (h : s.size = 0) : s.toList = [] := by rw [Lib.toList_data]; exact List.eq_nil_of_length_eq_zero (by rw [size_len]; exact h)
theorem emp_no {s : ByteArray} (h : 0 < s.size) : s.toList.isEmpty = false := by
  rw [Lib.toList_data]
  cases hl : s.data.toList with
  | nil => have h3 : s.size = 0 := by rw [← size_len, hl]; rfl
           omega
  | cons => rfl
theorem data_cons {s : ByteArray} (h : 0 < s.size) : s.data.toList = s[0] :: s.data.toList.drop 1 := by have := drop_cons s 0 h; simpa using this
theorem rest_len {s : ByteArray} (h : 0 < s.size) : (s.data.toList.drop 1).length = s.size - 1 := by rw [List.length_drop, size_len]

set_option maxRecDepth 100000 in
theorem num_any (k : Nat) (s : ByteArray) (w : World) (hk : k ≤ 100) (hs : s.size ≤ 1099511627776) :
    Calls Tryz.prog 260 #[.int .i64 (k : Int), .string s] w fun e w' => e = .returned (.int .i64 (takeS (.num k) s.data.toList)) ∧ Below w.heap.size w w' := by
  have HE : Hid (takeS (.num k) s.data.toList = if s.size < k then -1 else (k : Int)) := Lib.hid (by simp only [takeS]; rw [size_len])
  rw [HE.out]
  by_cases h : s.size < k
  · rw [if_pos h]
    have hb : decide (s.size < k) = true := by simpa using h
    go_enter Tryz.func260, Tryz.ntmps260
    go_wp2_with fail
    go_ret
    exact ⟨rfl, Below.refl _ _⟩
  · rw [if_neg h]
    have hb : decide (s.size < k) = false := by simpa using h
    go_enter Tryz.func260, Tryz.ntmps260
    go_wp2_with fail
    go_ret
    exact ⟨rfl, Below.refl _ _⟩

set_option maxRecDepth 100000 in
theorem ip4_any (s : ByteArray) (w : World) (hs : s.size ≤ 1099511627776) :
    Calls Tryz.prog 263 #[.agg #[], .string s] w fun e w' => e = .returned (.int .i64 (takeS .ip4 s.data.toList)) ∧ Below w.heap.size w w' := by
  have C := Lib.hid (fun w => num_any 4 s w (by omega) hs)
  have HE : Hid (takeS (.num 4) s.data.toList = takeS .ip4 s.data.toList) := Lib.hid rfl
  rw [HE.out] at C
  have hBa := Lib.hid ((Below.refl w.heap.size w).alloc (Nat.le_refl _) (.cells #[] 211))
  go_enter Tryz.func263, Tryz.ntmps263
  go_wp2_with fail
  refine (C.out _).mono ?_
  rintro e w1 ⟨rfl, hB1⟩
  have hB := hBa.out.trans (hB1.mono hBa.out.size)
  clear hB1
  go_wp2_with fail
  go_ret
  exact ⟨rfl, hB⟩

set_option maxRecDepth 100000 in
theorem ip6_any (s : ByteArray) (w : World) (hs : s.size ≤ 1099511627776) :
    Calls Tryz.prog 272 #[.agg #[], .string s] w fun e w' => e = .returned (.int .i64 (takeS .ip6 s.data.toList)) ∧ Below w.heap.size w w' := by
  have C := Lib.hid (fun w => num_any 16 s w (by omega) hs)
  have HE : Hid (takeS (.num 16) s.data.toList = takeS .ip6 s.data.toList) := Lib.hid rfl
  rw [HE.out] at C
  have hBa := Lib.hid ((Below.refl w.heap.size w).alloc (Nat.le_refl _) (.cells #[] 214))
  go_enter Tryz.func272, Tryz.ntmps272
  go_wp2_with fail
  refine (C.out _).mono ?_
  rintro e w1 ⟨rfl, hB1⟩
  have hB := hBa.out.trans (hB1.mono hBa.out.size)
  clear hB1
  go_wp2_with fail
  go_ret
  exact ⟨rfl, hB⟩

theorem textS_at {s : ByteArray} (h : 0 < s.size) : textS s.data.toList = if (s.size : Int) ≤ (s[0].toNat : Int) then -1 else 1 + (s[0].toNat : Int) := by
  have hl := rest_len h
  rw [data_cons h]
  simp only [textS]
  by_cases h2 : (s.size : Int) ≤ (s[0].toNat : Int)
  · rw [if_pos (by omega), if_pos h2]
  · rw [if_neg (by omega), if_neg h2]; omega
set_option maxRecDepth 100000 in
theorem text_any (s : ByteArray) (w : World) (hs : s.size ≤ 1099511627776) :
    Calls Tryz.prog 266 #[.agg #[], .string s] w fun e w' => e = .returned (.int .i64 (textS s.data.toList)) ∧ Below w.heap.size w w' := by
  have hBa := Lib.hid ((Below.refl w.heap.size w).alloc (Nat.le_refl _) (.cells #[] 212))
  by_cases h0 : s.size = 0
  · have he := emp_yes h0
    have HE : Hid (textS s.data.toList = -1) := Lib.hid (by rw [← Lib.toList_data, he]; rfl)
    rw [HE.out]
    clear h0
    go_enter Tryz.func266, Tryz.ntmps266
    go_wp2_with fail
    go_ret
    exact ⟨rfl, hBa.out⟩
  · have h1 : 0 < s.size := by omega
    have he := emp_no h1
    have HT := Lib.hid (textS_at h1)
    rw [HT.out]
    obtain ⟨c, hc⟩ : ∃ c, s[0] = c := ⟨_, rfl⟩
    have hc256 := byte_lt c
    rw [hc]
    clear h0
    by_cases h2 : (s.size : Int) ≤ (c.toNat : Int)
    · rw [if_pos h2]
      go_enter Tryz.func266, Tryz.ntmps266
      go_wp2_with fail
      go_ret
      exact ⟨rfl, hBa.out⟩
    · rw [if_neg h2]
      have h2' : (c.toNat : Int) < (s.size : Int) := by omega
      clear h2
      go_enter Tryz.func266, Tryz.ntmps266
      go_wp2_with fail
      go_ret
      exact ⟨rfl, hBa.out⟩

set_option maxRecDepth 100000 in
theorem salt_any (s : ByteArray) (w : World) (hs : s.size ≤ 1099511627776) :
    Calls Tryz.prog 289 #[.agg #[], .string s] w fun e w' => e = .returned (.int .i64 (takeS .salt s.data.toList)) ∧ Below w.heap.size w w' := by
  have C := Lib.hid (fun w => text_any s w hs)
  have hBa := Lib.hid ((Below.refl w.heap.size w).alloc (Nat.le_refl _) (.cells #[] 219))
  have HE : Hid (takeS .salt s.data.toList = textS s.data.toList) := Lib.hid rfl
  rw [HE.out]
  go_enter Tryz.func289, Tryz.ntmps289
  go_wp2_with fail
  refine (C.out _).mono ?_
  rintro e w1 ⟨rfl, hB1⟩
  have hB := hBa.out.trans (hB1.mono hBa.out.size)
  clear hB1
  go_wp2_with fail
  go_ret
  exact ⟨rfl, hB⟩

set_option maxRecDepth 100000 in
theorem hash_any (s : ByteArray) (w : World) (hs : s.size ≤ 1099511627776) :
    Calls Tryz.prog 292 #[.agg #[], .string s] w fun e w' => e = .returned (.int .i64 (takeS .hash s.data.toList)) ∧ Below w.heap.size w w' := by
  have C := Lib.hid (fun w => text_any s w hs)
  have hBa := Lib.hid ((Below.refl w.heap.size w).alloc (Nat.le_refl _) (.cells #[] 220))
  by_cases h0 : s.size = 0
  · have he := emp_yes h0
    have HE : Hid (takeS .hash s.data.toList = -1) := Lib.hid (by rw [← Lib.toList_data, he]; rfl)
    rw [HE.out]
    clear h0
    go_enter Tryz.func292, Tryz.ntmps292
    go_wp2_with fail
    go_ret
    exact ⟨rfl, hBa.out⟩
  · have h1 : 0 < s.size := by omega
    have he := emp_no h1
    obtain ⟨c, hc⟩ : ∃ c, s[0] = c := ⟨_, rfl⟩
    have hd := data_cons h1
    rw [hc] at hd
    clear h0
    by_cases h2 : c = 0
    · have HE : Hid (takeS .hash s.data.toList = -1) := Lib.hid (by simp only [takeS]; rw [if_pos (.inr (by rw [hd]; exact h2))])
      rw [HE.out]
      have hb : ((c.toNat : Int) == 0) = true := by rw [h2]; rfl
      clear h2 hd
      go_enter Tryz.func292, Tryz.ntmps292
      go_wp2_with fail
      go_ret
      exact ⟨rfl, hBa.out⟩
    · have HE : Hid (takeS .hash s.data.toList = textS s.data.toList) := Lib.hid (by
        simp only [takeS]; rw [if_neg]
        rintro (h | h)
        · rw [h] at hd; simp at hd
        · rw [hd] at h; exact h2 h)
      rw [HE.out]
      have hb : ((c.toNat : Int) == 0) = false := by rw [beq_eq_false_iff_ne]; intro h; exact h2 (UInt8.toNat_inj.1 (by simpa using h))
      clear h2 hd
      go_enter Tryz.func292, Tryz.ntmps292
      go_wp2_with fail
      refine (C.out _).mono ?_
      rintro e w1 ⟨rfl, hB1⟩
      have hB := hBa.out.trans (hB1.mono hBa.out.size)
      clear hB1
      go_wp2_with fail
      go_ret
      exact ⟨rfl, hB⟩

set_option maxRecDepth 100000 in
theorem tail_any (s : ByteArray) (w : World) (hs : s.size ≤ 1099511627776) :
    Calls Tryz.prog 295 #[.agg #[], .string s] w fun e w' => e = .returned (.int .i64 (takeS .tail s.data.toList)) ∧ Below w.heap.size w w' := by
  have hBa := Lib.hid ((Below.refl w.heap.size w).alloc (Nat.le_refl _) (.cells #[] 221))
  have HE : Hid (takeS .tail s.data.toList = (s.size : Int)) := Lib.hid (by simp only [takeS]; rw [size_len])
  rw [HE.out]
  go_enter Tryz.func295, Tryz.ntmps295
  go_wp2_with fail
  go_ret
  exact ⟨rfl, hBa.out⟩

set_option maxRecDepth 100000 in
theorem some_any (s : ByteArray) (w : World) (hs : s.size ≤ 1099511627776) :
    Calls Tryz.prog 276 #[.string s] w fun e w' => e = .returned (.int .i64 (someS s.data.toList)) ∧ w = w' := by
  by_cases h0 : s.size = 0
  · have he := emp_yes h0
    have HE : Hid (someS s.data.toList = -1) := Lib.hid (by rw [← Lib.toList_data, he]; rfl)
    rw [HE.out]
    clear h0
    go_enter Tryz.func276, Tryz.ntmps276
    go_wp2_with fail
    go_ret
    exact ⟨rfl, rfl⟩
  · have h1 : 0 < s.size := by omega
    have he := emp_no h1
    have HE : Hid (someS s.data.toList = (s.size : Int)) := Lib.hid (by unfold someS; rw [if_neg (by intro h; rw [← size_len, h] at h1; simp at h1), size_len])
    rw [HE.out]
    clear h0
    go_enter Tryz.func276, Tryz.ntmps276
    go_wp2_with fail
    go_ret
    exact ⟨rfl, rfl⟩

set_option maxRecDepth 100000 in
theorem hexes_any (s : ByteArray) (w : World) (hs : s.size ≤ 1099511627776) :
    Calls Tryz.prog 275 #[.agg #[], .string s] w fun e w' => e = .returned (.int .i64 (takeS .hexes s.data.toList)) ∧ Below w.heap.size w w' := by
  have C := Lib.hid (fun w => some_any s w hs)
  have hBa := Lib.hid ((Below.refl w.heap.size w).alloc (Nat.le_refl _) (.cells #[] 215))
  have HE : Hid (takeS .hexes s.data.toList = someS s.data.toList) := Lib.hid rfl
  rw [HE.out]
  go_enter Tryz.func275, Tryz.ntmps275
  go_wp2_with fail
  refine (C.out _).mono ?_
  rintro e w1 ⟨rfl, rfl⟩
  go_wp2_with fail
  go_ret
  exact ⟨rfl, hBa.out⟩

set_option maxRecDepth 100000 in
theorem b64_any (s : ByteArray) (w : World) (hs : s.size ≤ 1099511627776) :
    Calls Tryz.prog 283 #[.agg #[], .string s] w fun e w' => e = .returned (.int .i64 (takeS .b64 s.data.toList)) ∧ Below w.heap.size w w' := by
  have C := Lib.hid (fun w => some_any s w hs)
  have hBa := Lib.hid ((Below.refl w.heap.size w).alloc (Nat.le_refl _) (.cells #[] 217))
  have HE : Hid (takeS .b64 s.data.toList = someS s.data.toList) := Lib.hid rfl
  rw [HE.out]
  go_enter Tryz.func283, Tryz.ntmps283
  go_wp2_with fail
  refine (C.out _).mono ?_
  rintro e w1 ⟨rfl, rfl⟩
  go_wp2_with fail
  go_ret
  exact ⟨rfl, hBa.out⟩

theorem kind_at {s : ByteArray} (h : 2 ≤ s.size) : takeS .kind s.data.toList = if valL (s.extract 0 2).data.toList 0 = 0 then -1 else 2 := by
  have hl : 2 ≤ s.data.toList.length := by rw [size_len]; exact h
  have he : (s.extract 0 2).data.toList = s.data.toList.take 2 := by rw [Lib.extract_data]; rfl
  rw [he]
  match hd : s.data.toList, hl with
  | a :: b :: r, _ =>
    have ha := a.toNat_lt
    have hb := b.toNat_lt
    simp only [takeS, List.take_succ_cons, List.take_zero, valL, List.length_cons, List.getD_cons_zero, List.getD_cons_succ]
    by_cases h0 : a = 0 ∧ b = 0
    · rw [if_pos (.inr h0), if_pos (by rw [h0.1, h0.2]; rfl)]
    · have hn : ¬ (r.length + 1 + 1 < 2 ∨ (a = 0 ∧ b = 0)) := by
        rintro (h | h)
        · omega
        · exact h0 h
      rw [if_neg hn, if_neg]
      intro h1
      apply h0
      exact ⟨UInt8.toNat_inj.1 (by simp; omega), UInt8.toNat_inj.1 (by simp; omega)⟩
set_option maxRecDepth 100000 in
theorem kind_any (s : ByteArray) (w : World) (hs : s.size ≤ 1099511627776) :
    Calls Tryz.prog 279 #[.agg #[], .string s] w fun e w' => e = .returned (.int .i64 (takeS .kind s.data.toList)) ∧ Below w.heap.size w w' := by
  have hBa := Lib.hid ((Below.refl w.heap.size w).alloc (Nat.le_refl _) (.cells #[] 216))
  by_cases h2 : 2 ≤ s.size
  · have C := Lib.hid (fun w => small_any (s.extract 0 2) w (by rw [ByteArray.size_extract]; omega))
    have HT := Lib.hid (kind_at h2)
    rw [HT.out]
    obtain ⟨v, hv⟩ : ∃ v, valL (s.extract 0 2).data.toList 0 = v := ⟨_, rfl⟩
    rw [hv] at C ⊢
    have h2i : (2 : Int) ≤ (s.size : Int) := by omega
    have hb2 : decide ((s.size : Int) < 2) = false := by rw [decide_eq_false_iff_not]; omega
    clear hv
    by_cases hv0 : v = 0
    · subst hv0
      rw [if_pos rfl]
      go_enter Tryz.func279, Tryz.ntmps279
      go_wp2_with fail
      refine (C.out _).mono ?_
      rintro e w1 ⟨rfl, rfl⟩
      go_wp2_with fail
      go_ret
      exact ⟨rfl, hBa.out⟩
    · rw [if_neg hv0]
      have hb : ((v : Int) == 0) = false := by rw [beq_eq_false_iff_ne]; omega
      clear hv0
      go_enter Tryz.func279, Tryz.ntmps279
      go_wp2_with fail
      refine (C.out _).mono ?_
      rintro e w1 ⟨rfl, rfl⟩
      go_wp2_with fail
      go_ret
      exact ⟨rfl, hBa.out⟩
  · have HE : Hid (takeS .kind s.data.toList = -1) := Lib.hid (by simp only [takeS]; rw [if_pos (.inl (by rw [size_len]; omega))])
    rw [HE.out]
    have h2i : (s.size : Int) < 2 := by omega
    have hb2 : decide ((s.size : Int) < 2) = true := by rw [decide_eq_true_eq]; omega
    clear h2
    go_enter Tryz.func279, Tryz.ntmps279
    go_wp2_with fail
    go_ret
    exact ⟨rfl, hBa.out⟩
end Go.Proofs.YtnamkladeaohoaaGreat.takes
namespace Go.Proofs.YtnamkladeaohoaaGreat.typesW
open Go.RowKit Go.Proofs.YtnamkladeaohoaaGreat.kit Go.Proofs.YtnamkladeaohoaaGreat.nspec Go.Proofs.YtnamkladeaohoaaGreat.bits Go.Proofs.YtnamkladeaohoaaGreat.ints Go.Proofs.YtnamkladeaohoaaGreat.fld Go.Proofs.YtnamkladeaohoaaGreat.typesP Go.Proofs.YtnamkladeaohoaaGreat.takes
set_option linter.unusedVariables false

/-- what Types leaves -/
def TypesPost (w : World) (d : Bs) (e : Ending) (w' : World) : Prop := Below w.heap.size w w' ∧ ((∃ (v : Value) (l : List Nat), typesS d = some l ∧ e = .returned (.tuple #[v, .int .i64 0]) ∧ w'.ownsRow w.heap.size 3 1 v l.length (l.map bitV)) ∨ (typesS d = none ∧ e = .returned (.tuple #[.slice none 0 0, .int .i64 7])))

theorem u_two {u : ByteArray} (h : 2 ≤ u.size) : u.data.toList = u[0] :: u[1] :: u.data.toList.drop 2 := by
  have h1 := drop_cons u 0 (by omega)
  have h2 := drop_cons u 1 (by omega)
  rw [List.drop_zero] at h1
  rw [h1, h2]; rfl
theorem getD_ext {u : ByteArray} (j : Nat) (h : 2 + j < u.size) : (u.data.toList.drop 2).getD j 0 = u[2 + j] := by
  rw [List.getD_eq_getElem?_getD, List.getElem?_drop]
  have h' : 2 + j < u.data.toList.length := by rw [size_len]; exact h
  rw [List.getElem?_eq_getElem h']; rfl

theorem res_none {d : Bs} {R : Option (List Nat)} (h : typesA (-1) [] d = R) (h2 : R = none) : typesS d = none := by rw [typesS_eq, h, h2]
theorem res_zero {d : Bs} {l : List Nat} (h : typesA (-1) [] d = some l) (h2 : 0 ∈ l) : typesS d = none := by rw [typesS_eq, h]; simp [h2]
theorem res_some {d : Bs} {l : List Nat} (h : typesA (-1) [] d = some l) (h2 : 0 ∉ l) : typesS d = some l := by rw [typesS_eq, h]; simp [h2]
theorem and1 {x : Int} (h₀ : 0 ≤ x) (h₁ : x < 256) : bits .and .u8 x 1 = x % 2 := bits_mask .u8 8 (by decide) (fun n h1 h2 => by rw [IntKind.wrap_u8]; omega) 1 (by decide) x h₀ h₁

set_option maxRecDepth 100000 in
set_option maxHeartbeats 8000000 in
theorem types_any (s : ByteArray) (w : World) (hs : s.size ≤ 1048576) :
    Calls Tryz.prog 186 #[.string s] w (TypesPost w s.data.toList) := by
  obtain ⟨i0, hi, hz0, hz1, hz2⟩ := info_parts infoInt
  obtain ⟨R, HR⟩ : ∃ R, Hid (typesA (-1) [] s.data.toList = R) := ⟨_, Lib.hid rfl⟩
  go_enter Tryz.func186, Tryz.ntmps186
  go_wp2_with fail
  go_loopg [0, 4, 5] (s.size + 1) (fun gas sv ov lv wr => ∃ (u : ByteArray) (L : Int) (A : List Nat), sv = .string u ∧ lv = .int .i64 L ∧ -1 ≤ L ∧ L ≤ 255 ∧ u.size + 1 ≤ gas ∧ u.size ≤ 1048576 ∧ A.length + 8 * u.size ≤ 8388608 ∧ Hid (typesA L A u.data.toList = R) ∧ wr.ownsRow w.heap.size 3 1 ov A.length (A.map bitV) ∧ Below w.heap.size w wr)
  case atStart => exact ⟨s, -1, [], rfl, rfl, by omega, by omega, by omega, hs, by simp; omega, HR, World.ownsRow_nil _ _ _ _, Below.refl _ _⟩
  case round =>
    obtain ⟨u, L, A, rfl, rfl, hL0, hL1, hgas, hus, hAu, HW, hA, hB⟩ := hrel
    obtain ⟨gk', hgk'⟩ : ∃ g, g = gk := ⟨_, rfl⟩
    rw [← hgk'] at hgas
    have HG := Lib.hid hgas; clear hgas
    have HB := Lib.hid hB
    by_cases h0 : u.size = 0
    · have he := emp_yes h0
      have HE : Hid (typesA (-1) [] s.data.toList = some A) := Lib.hid (by
        have hd : u.data.toList = [] := by rw [← Lib.toList_data]; exact he
        rw [HR.out, ← HW.out, hd, types_end])
      have hst := Lib.hid (sorted_of HE.out)
      obtain ⟨a, c, rfl, hlc, hcm, hR⟩ := RdN.of_own hA
      have HA := Lib.hid hA
      clear hA h0
      cases A with
      | nil =>
        have HF := Lib.hid (res_some HE.out (by simp))
        clear hR
        go_wp2_with fail
        go_ret2
        exact ⟨HB.out, .inl ⟨_, _, HF.out, rfl, HA.out⟩⟩
      | cons x r =>
        obtain ⟨g, o, rfl, hg, hcell⟩ := hR 0 x rfl
        unfold bitV at hcell
        simp only [Nat.add_zero] at hcell
        obtain ⟨n, hn⟩ : ∃ n, (x :: r).length = n := ⟨_, rfl⟩
        have hn1 : 1 ≤ n := by rw [← hn]; simp
        rw [hn] at hlc ⊢
        have HN := Lib.hid hn; clear hn
        have hni : (0 : Int) < (n : Int) := by omega
        have hnb : decide (0 < n) = true := by rw [decide_eq_true_eq]; omega
        by_cases hx : x = 0
        · have HF := Lib.hid (res_zero HE.out (by rw [hx]; simp))
          have hb : ((x : Int) == 0) = true := by rw [beq_iff_eq]; omega
          clear hx hR
          go_wp2_with fail
          go_ret2
          exact ⟨HB.out, .inr ⟨HF.out, rfl⟩⟩
        · have HF := Lib.hid (res_some HE.out (fun h => hx (by have := (zero_head hst.out.1).1 h; simpa using this)))
          have hb : ((x : Int) == 0) = false := by rw [beq_eq_false_iff_ne]; omega
          clear hx hR
          go_wp2_with fail
          go_ret2
          have h := HA.out
          rw [HN.out] at h
          exact ⟨HB.out, .inl ⟨_, x :: r, HF.out, rfl, by rw [HN.out]; exact h⟩⟩
    · have hne := emp_no (s := u) (by omega)
      by_cases h3 : u.size < 3
      · have HF := Lib.hid (res_none HR.out (by
          rw [← HW.out]
          by_cases h1 : u.size = 1
          · have hl : u.data.toList = u[0] :: u.data.toList.drop 1 := data_cons (by omega)
            rw [drop_end u 1 (by omega)] at hl
            rw [hl, types_one]
          · rw [u_two (by omega), types_bad]
            rw [drop_end u 2 (by omega)]
            rcases Nat.eq_zero_or_pos (u[1]'(by omega)).toNat with h4 | h4
            · right; left; omega
            · right; right; right; left; simpa using h4))
        have h3i : (u.size : Int) < 3 := by omega
        clear h3 h0 hA
        go_wp2_with fail
        go_ret2
        exact ⟨HB.out, .inr ⟨HF.out, rfl⟩⟩
      · have h3i : (3 : Int) ≤ (u.size : Int) := by omega
        have h2s : 2 ≤ u.size := by omega
        have hd := u_two (u := u) h2s
        have hml : (u.data.toList.drop 2).length = u.size - 2 := by rw [List.length_drop, size_len]
        have hlast : ∀ j, 2 + j < u.size → (u.data.toList.drop 2).getD j 0 = u.data.toList.getD (2 + j) 0 := fun j hj => by
          rw [List.getD_eq_getElem?_getD, List.getD_eq_getElem?_getD, List.getElem?_drop]
        have h1s : 1 < u.size := by omega
        have h0s : 0 < u.size := by omega
        obtain ⟨b, hb⟩ : ∃ b, u[0] = b := ⟨_, rfl⟩
        obtain ⟨n, hn⟩ : ∃ n, u[1] = n := ⟨_, rfl⟩
        rw [hb, hn] at hd
        obtain ⟨m, hm⟩ : ∃ m, u.data.toList.drop 2 = m := ⟨_, rfl⟩
        rw [hm] at hd hml hlast
        have hb256 := byte_lt b
        have hn256 := byte_lt n
        clear h3 h0
        have HD := Lib.hid hd; have HML := Lib.hid hml; have HLAST := Lib.hid hlast; have HMM := Lib.hid hm
        clear hd hml hlast hm
        have BAD : ∀ h : ((b.toNat : Int) ≤ L ∨ n.toNat < 1 ∨ 32 < n.toNat ∨ m.length < n.toNat ∨ m.getD (n.toNat - 1) 0 = 0), typesS s.data.toList = none := fun h =>
          res_none HR.out (by rw [← HW.out, HD.out, types_bad h])
        have HBAD := Lib.hid BAD; clear BAD
        by_cases c1 : (b.toNat : Int) ≤ L
        · have HF := Lib.hid (HBAD.out (.inl c1))
          clear hA
          go_wp2_with fail
          go_ret2
          exact ⟨HB.out, .inr ⟨HF.out, rfl⟩⟩
        have c1i : L < (b.toNat : Int) := by omega
        clear c1
        by_cases c2 : n.toNat < 1
        · have HF := Lib.hid (HBAD.out (.inr (.inl c2)))
          have c2i : (n.toNat : Int) < 1 := by omega
          have c2b : decide (n.toNat < 1) = true := by rw [decide_eq_true_eq]; exact c2
          clear hA c2
          go_wp2_with fail
          go_ret2
          exact ⟨HB.out, .inr ⟨HF.out, rfl⟩⟩
        have c2i : (1 : Int) ≤ (n.toNat : Int) := by omega
        have c2b : decide (n.toNat < 1) = false := by rw [decide_eq_false_iff_not]; exact c2
        clear c2
        by_cases c3 : 32 < n.toNat
        · have HF := Lib.hid (HBAD.out (.inr (.inr (.inl c3))))
          have c3i : (32 : Int) < (n.toNat : Int) := by omega
          have c3b : decide (32 < n.toNat) = true := by rw [decide_eq_true_eq]; exact c3
          clear hA c3
          go_wp2_with fail
          go_ret2
          exact ⟨HB.out, .inr ⟨HF.out, rfl⟩⟩
        have c3i : (n.toNat : Int) ≤ 32 := by omega
        have c3b : decide (32 < n.toNat) = false := by rw [decide_eq_false_iff_not]; exact c3
        clear c3
        by_cases c4 : m.length < n.toNat
        · have HF := Lib.hid (HBAD.out (.inr (.inr (.inr (.inl c4)))))
          have c4i : (u.size : Int) < 2 + (n.toNat : Int) := by have := HML.out; omega
          clear hA c4
          go_wp2_with fail
          go_ret2
          exact ⟨HB.out, .inr ⟨HF.out, rfl⟩⟩
        have c4i : 2 + (n.toNat : Int) ≤ (u.size : Int) := by have := HML.out; omega
        have HC4 := Lib.hid c4; clear c4
        have h1N : 1 + n.toNat < u.size := by omega
        obtain ⟨z, hz⟩ : ∃ z, u[1 + n.toNat] = z := ⟨_, rfl⟩
        have hz256 := byte_lt z
        have HZ : Hid (m.getD (n.toNat - 1) 0 = z) := Lib.hid (by
          rw [HLAST.out (n.toNat - 1) (by omega), show 2 + (n.toNat - 1) = 1 + n.toNat by omega, getD_at u (1 + n.toNat) h1N]; exact hz)
        by_cases c5 : z = 0
        · have HF := Lib.hid (HBAD.out (.inr (.inr (.inr (.inr (by rw [HZ.out]; exact c5))))))
          have hzb : ((z.toNat : Int) == 0) = true := by rw [c5]; rfl
          clear hA c5
          go_wp2_with fail
          go_ret2
          exact ⟨HB.out, .inr ⟨HF.out, rfl⟩⟩
        have hzb : ((z.toNat : Int) == 0) = false := by rw [beq_eq_false_iff_ne]; intro h; exact c5 (UInt8.toNat_inj.1 (by simpa using h))
        have c2n : 1 ≤ n.toNat := by omega
        have c3n : n.toNat ≤ 32 := by omega
        have hgo := types_go (last := L) (out := A) (b := b) (n := n) (m := m) (by
          rintro (h | h | h | h | h)
          · omega
          · omega
          · omega
          · exact HC4.out h
          · rw [HZ.out] at h; exact c5 h)
        have HGO : Hid (typesA (b.toNat : Int) (A ++ blockL b.toNat (m.take n.toNat)) (m.drop n.toNat) = R) := Lib.hid (by rw [← hgo, ← HD.out]; exact HW.out)
        clear hgo c5
        obtain ⟨A2, hA2⟩ : ∃ A2, A ++ blockL b.toNat (m.take n.toNat) = A2 := ⟨_, rfl⟩
        obtain ⟨BL, hBL⟩ : ∃ BL, bitsL (m.take n.toNat) = BL := ⟨_, rfl⟩
        have hBLl : BL.length = 8 * n.toNat := by rw [← hBL, bitsL_len, List.length_take]; have := HML.out; omega
        have HA2 : Hid (A ++ pickL b.toNat 0 (BL.drop 0) = A2) := Lib.hid (by rw [← hA2, List.drop_zero, ← hBL]; rfl)
        have HBIT : Hid (∀ k, k < 8 * n.toNat → ∀ (c : UInt8), (∀ h : 2 + k / 8 < u.size, u[2 + k / 8] = c) → BL[k]? = some (c.toNat / 2 ^ (7 - k % 8) % 2)) := Lib.hid (by
          intro k hk c hc
          have hml := HML.out
          have h1 := bitsL_get (m.take n.toNat) k (by rw [List.length_take]; omega)
          rw [hBL] at h1
          rw [h1]
          have h2 : 2 + k / 8 < u.size := by omega
          have h3 : (m.take n.toNat).getD (k / 8) 0 = c := by
            rw [List.getD_eq_getElem?_getD, List.getElem?_take, if_pos (by omega), ← List.getD_eq_getElem?_getD, HLAST.out (k / 8) h2, getD_at u _ h2]
            exact hc h2
          rw [h3])
        have HBLL := Lib.hid hBLl
        rw [hA2] at HGO
        clear hA2 hBL hBLl
        go_wp2_with fail
        go_loopg [4, 6, 54] (8 * n.toNat + 1) (fun gas ov _ kv wq => ∃ (k : Nat) (A' : List Nat), kv = .int .i64 k ∧ k ≤ 8 * n.toNat ∧ 8 * n.toNat + 1 ≤ k + gas ∧ Hid (A' ++ pickL b.toNat k (BL.drop k) = A2) ∧ A'.length ≤ A.length + k ∧ wq.ownsRow w.heap.size 3 1 ov A'.length (A'.map bitV) ∧ Below w.heap.size w wq)
        case atStart => exact ⟨0, A, rfl, by omega, by omega, HA2, by omega, hA, hB⟩
        case round =>
          clear hA hB HB
          obtain ⟨k, A', rfl, hk, hkg, HV, hAl, hA', hB'⟩ := hrel
          have HKG := Lib.hid hkg; clear hkg
          have HB' := Lib.hid hB'
          by_cases hlt : k < 8 * n.toNat
          · have hjb : 2 + k / 8 < u.size := by omega
            obtain ⟨c, hc⟩ : ∃ c, u[2 + k / 8] = c := ⟨_, rfl⟩
            have hc256 := byte_lt c
            have hbit := HBIT.out k hlt c (fun h => hc)
            obtain ⟨v, hv⟩ : ∃ v, c.toNat / 2 ^ (7 - k % 8) = v := ⟨_, rfl⟩
            have hv255 : v ≤ 255 := by rw [← hv]; have := Nat.div_le_self c.toNat (2 ^ (7 - k % 8)); omega
            obtain ⟨x, hx⟩ : ∃ x, v % 2 = x := ⟨_, rfl⟩
            have HXA : Hid (bits .and .u8 ((c.toNat : Int) / 2 ^ (7 - k % 8)) 1 = (x : Int)) := Lib.hid (by
              have e : (c.toNat : Int) / 2 ^ (7 - k % 8) = (v : Int) := by rw [← hv]; simp
              rw [e, and1 (by omega) (by omega)]; omega)
            rw [hv, hx] at hbit
            have HST := Lib.hid (pick_snoc HV.out hbit)
            have hji : 2 + (k : Int) / 8 < (u.size : Int) := by omega
            have hx2 : x < 2 := by omega
            clear hbit hv hx
            by_cases hx1 : x = 1
            · have hxb : (bits .and .u8 ((c.toNat : Int) / 2 ^ (7 - k % 8)) 1 == 1) = true := by rw [HXA.out, beq_iff_eq]; omega
              obtain ⟨t, ht⟩ : ∃ t, b.toNat * 256 + k = t := ⟨_, rfl⟩
              have HXT : Hid ((b.toNat : Int) * 256 + (k : Int) = (t : Int)) := Lib.hid (by omega)
              have HST2 : Hid ((A' ++ [t]) ++ pickL b.toNat (k + 1) (BL.drop (k + 1)) = A2) := Lib.hid (by rw [← ht]; simpa [hx1] using HST.out)
              have hAb : A'.length + 1 ≤ 8388609 := by omega
              have hsz := hB'.size
              clear ht HST hx1
              go_wp2_with (at_builtin; refine wpList_append_own _ rfl _ _ 49 rfl w.heap.size 3 i0 (.int .i64 0) 1 8 Tryz.underlying49 hi hz0 hz1 hz2 rfl (by decide) _ _ _ rfl (hA'.alloc _) ⟨wr.heap.size, 0, none⟩ 1 1 [.int .i64 ((b.toNat : Int) * 256 + (k : Int))] rfl rfl ?c1 ?c2 ?c3 ?c4 ?c5 ?_)
              case c1 => exact cell_one_new _ _ _
              case c2 => simp [Value.oneCell']
              case c3 => unfold maxLen; omega
              case c4 => omega
              case c5 => simp; omega
              intro v' w1 hown' hgrow hnil
              rw [HXT.out] at hown'
              have hown2 := own_snocN hown'
              have hB2 := below_append hB' hsz hA' hgrow
              clear hown' hgrow hA' hnil
              go_wp2_with fail
              have hkg := HKG.out
              go_roundg (gk - 1)
              case rel => exact ⟨k + 1, A' ++ [t], by go_num, by omega, by omega, HST2, by simp; omega, hown2, hB2⟩
              case measure => omega
            · have hxb : (bits .and .u8 ((c.toNat : Int) / 2 ^ (7 - k % 8)) 1 == 1) = false := by rw [HXA.out, beq_eq_false_iff_ne]; omega
              have HST2 : Hid (A' ++ pickL b.toNat (k + 1) (BL.drop (k + 1)) = A2) := Lib.hid (by simpa [hx1] using HST.out)
              clear hx1 HST
              go_wp2_with fail
              have hkg := HKG.out
              go_roundg (gk - 1)
              case rel => exact ⟨k + 1, A', by go_num, by omega, by omega, HST2, by omega, hA', hB'⟩
              case measure => omega
          · have hke : k = 8 * n.toNat := by omega
            have HAE := Lib.hid (pick_end HV.out (by have := HBLL.out; omega))
            have hA2l : A2.length ≤ A.length + 8 * n.toNat := by rw [← HAE.out]; omega
            rw [HAE.out] at hA'
            subst hke
            have hu2 : (u.extract (2 + n.toNat) u.size).data.toList = m.drop n.toNat := by
              rw [Lib.extract_data, List.take_of_length_le (by rw [List.length_drop, size_len]; exact Nat.le_refl _), ← HMM.out, List.drop_drop]
            have hus2 : (u.extract (2 + n.toNat) u.size).size = u.size - (2 + n.toNat) := by rw [ByteArray.size_extract]; omega
            have HU2 := Lib.hid hu2; have HUS2 := Lib.hid hus2
            clear hu2 hus2
            go_wp2_with fail
            have hG := HG.out
            go_roundg (gk' - 1)
            case rel =>
              have h2 := HUS2.out
              exact ⟨_, _, A2, rfl, rfl, by omega, by omega, by omega, by omega, by omega, by rw [HU2.out]; exact HGO, hA', hB'⟩
            case measure => omega
end Go.Proofs.YtnamkladeaohoaaGreat.typesW
namespace Go.Proofs.YtnamkladeaohoaaGreat.kindsT
open Go.RowKit Go.Proofs.YtnamkladeaohoaaGreat.kit Go.Proofs.YtnamkladeaohoaaGreat.nspec Go.Proofs.YtnamkladeaohoaaGreat.fld Go.Proofs.YtnamkladeaohoaaGreat.typesW
set_option linter.unusedVariables false

set_option maxRecDepth 100000 in
set_option maxHeartbeats 1000000 in
theorem kinds_any (s : ByteArray) (w : World) (hs : s.size ≤ 1048576) :
    Calls Tryz.prog 286 #[.agg #[], .string s] w fun e w' => e = .returned (.int .i64 (takeS .kinds s.data.toList)) ∧ Below w.heap.size w w' := by
  have C := Lib.hid (fun w => types_any s w hs)
  have hBa := Lib.hid ((Below.refl w.heap.size w).alloc (Nat.le_refl _) (.cells #[] 218))
  obtain ⟨R, HR⟩ : ∃ R, Hid (takeS .kinds s.data.toList = R) := ⟨_, Lib.hid rfl⟩
  rw [HR.out]
  go_enter Tryz.func286, Tryz.ntmps286
  go_wp2_with fail
  refine (C.out _).mono ?_
  rintro e w1 ⟨hB1, ⟨v, l, hl, rfl, _⟩ | ⟨hl, rfl⟩⟩
  · have HB := Lib.hid (hBa.out.trans (hB1.mono hBa.out.size))
    have HN : Hid ((s.size : Int) = R) := Lib.hid (by rw [← HR.out]; simp only [takeS]; rw [if_neg (by rw [hl]; simp), size_len])
    clear hB1 hl
    go_wp2_with fail
    go_ret
    exact ⟨by rw [← HN.out]; rfl, HB.out⟩
  · have HB := Lib.hid (hBa.out.trans (hB1.mono hBa.out.size))
    have HN : Hid ((-1 : Int) = R) := Lib.hid (by rw [← HR.out]; simp only [takeS]; rw [if_pos hl])
    clear hB1 hl
    go_wp2_with fail
    go_ret
    exact ⟨by rw [← HN.out]; rfl, HB.out⟩
end Go.Proofs.YtnamkladeaohoaaGreat.kindsT
namespace Go.Proofs.YtnamkladeaohoaaGreat.rsplit
open Go.RowKit Go.Proofs.YtnamkladeaohoaaGreat.kit Go.Proofs.YtnamkladeaohoaaGreat.nspec

theorem infoStr : (Tryz.prog.info? 9).map (fun i => (i.zero, i.size, i.bytes)) = some (some (.string ByteArray.empty), 1, 16) := by kernel_rfl

/-- a list of texts can be read from address a on, in blocks from base on -/
def Rd (w : World) (a : Option Addr) (base : Nat) (ls : List Bs) : Prop :=
  ∀ (j : Nat) (x : Bs), ls[j]? = some x → ∃ g o, a = some ⟨g, o, none⟩ ∧ base ≤ g ∧ g < w.heap.size ∧ w.cell? ⟨g, o + j, none⟩ = some (strV x)
theorem Rd.nil (w : World) (a : Option Addr) (base : Nat) : Rd w a base [] := by intro j x h; simp at h
theorem Rd.below {w w' : World} {a : Option Addr} {base B : Nat} {ls : List Bs} (h : Rd w a base ls) (hB : Below B w w') (hz : B = w.heap.size) : Rd w' a base ls := by
  intro j x hx
  obtain ⟨g, o, h1, h2, h3, h4⟩ := h j x hx
  exact ⟨g, o, h1, h2, Nat.lt_of_lt_of_le h3 hB.size, (hB.cell (p := ⟨g, o + j, none⟩) (by rw [hz]; exact h3)).trans h4⟩
theorem Rd.mono {w : World} {a : Option Addr} {b b' : Nat} {ls : List Bs} (h : Rd w a b ls) (hb : b' ≤ b) : Rd w a b' ls := by
  intro j x hx
  obtain ⟨g, o, h1, h2, h3, h4⟩ := h j x hx
  exact ⟨g, o, h1, Nat.le_trans hb h2, h3, h4⟩
theorem Rd.of_own {w : World} {base : Nat} {v : Value} {ls : List Bs} (h : w.ownsRow base 9 1 v ls.length (ls.map strV)) : ∃ a c, v = .slice a ls.length c ∧ Rd w a base ls := by
  rcases h.2 with ⟨rfl, h0⟩ | ⟨g, cap, cur, rfl, hb, hg, _, _, _, htake⟩
  · have : ls = [] := List.eq_nil_of_length_eq_zero h0
    subst this
    exact ⟨none, 0, rfl, Rd.nil _ _ _⟩
  · refine ⟨_, cap, rfl, ?_⟩
    intro j x hx
    refine ⟨g, 0, rfl, hb, (Array.getElem?_eq_some_iff.1 hg).1, ?_⟩
    have := h.cells (g := g) rfl j (strV x) (by rw [List.getElem?_map, hx]; rfl)
    have hadd : (⟨g, 0, none⟩ : Addr).add j = ⟨g, 0 + j, none⟩ := by unfold Addr.add; split <;> simp_all
    rw [hadd] at this
    exact this

theorem own_snoc {w1 : World} {base : Nat} {v' x : Value} {acc : List Bs} {y : Bs} (hx : x = strV y) (h : w1.ownsRow base 9 1 v' (acc.length + 1) (acc.map strV ++ [x])) : w1.ownsRow base 9 1 v' (acc ++ [y]).length ((acc ++ [y]).map strV) := by
  subst hx; simpa using h
/-- a list of texts of the call's own: nil where it is empty -/
def SV (w : World) (v : Value) (base : Nat) (ls : List Bs) : Prop :=
  (ls = [] ∧ v = .slice none 0 0) ∨ (ls ≠ [] ∧ ∃ g c, v = .slice (some ⟨g, 0, none⟩) ls.length c ∧ ls.length ≤ c ∧ c ≤ maxLen ∧ base ≤ g ∧ g < w.heap.size ∧ ∀ (j : Nat) (x : Bs), ls[j]? = some x → w.cell? ⟨g, j, none⟩ = some (strV x))
theorem SV.of_own {w : World} {base : Nat} {v : Value} {ls : List Bs} (h : w.ownsRow base 9 1 v ls.length (ls.map strV)) (hn : v = .slice none 0 0 ↔ ls = []) : SV w v base ls := by
  rcases h.2 with ⟨rfl, h0⟩ | ⟨g, cap, cur, rfl, hb, hg, h1, h2, _, htake⟩
  · exact .inl ⟨hn.1 rfl, rfl⟩
  · refine .inr ⟨fun e => ?_, g, cap, rfl, h1, h2, hb, (Array.getElem?_eq_some_iff.1 hg).1, ?_⟩
    · have := hn.2 e; simp at this
    · intro j x hx
      have := h.cells (g := g) rfl j (strV x) (by rw [List.getElem?_map, hx]; rfl)
      have hadd : (⟨g, 0, none⟩ : Addr).add j = ⟨g, j, none⟩ := by unfold Addr.add; split <;> simp_all
      rw [hadd] at this
      exact this
theorem SV.below {w w' : World} {v : Value} {base B : Nat} {ls : List Bs} (h : SV w v base ls) (hB : Below B w w') (hz : B = w.heap.size) : SV w' v base ls := by
  rcases h with h | ⟨h0, g, c, h1, h2, h3, h4, h5, h6⟩
  · exact .inl h
  · exact .inr ⟨h0, g, c, h1, h2, h3, h4, Nat.lt_of_lt_of_le h5 hB.size, fun j x hx => (hB.cell (p := ⟨g, j, none⟩) (by rw [hz]; exact h5)).trans (h6 j x hx)⟩
theorem SV.mono {w : World} {v : Value} {base b' : Nat} {ls : List Bs} (h : SV w v base ls) (hb : b' ≤ base) : SV w v b' ls := by
  rcases h with h | ⟨h0, g, c, h1, h2, h3, h4, h5⟩
  · exact .inl h
  · exact .inr ⟨h0, g, c, h1, h2, h3, Nat.le_trans hb h4, h5⟩
theorem SV.rd {w : World} {v : Value} {base : Nat} {ls : List Bs} (h : SV w v base ls) : ∃ a c, v = .slice a ls.length c ∧ Rd w a base ls := by
  rcases h with ⟨rfl, h⟩ | ⟨h0, g, c, h1, h2, h3, h4, h5, h6⟩
  · exact ⟨none, 0, h, Rd.nil _ _ _⟩
  · exact ⟨_, c, h1, fun j x hx => ⟨g, 0, rfl, h4, h5, by rw [Nat.zero_add]; exact h6 j x hx⟩⟩
/-- what Split leaves -/
def SplitPost (w : World) (l : Bs) (e : Ending) (w' : World) : Prop :=
  Below w.heap.size w w' ∧ ((∃ v ls, split l = some ls ∧ e = .returned (.tuple #[v, .bool true]) ∧ SV w' v w.heap.size ls) ∨
    (split l = none ∧ ∃ a n c, e = .returned (.tuple #[.slice a n c, .bool false])))

theorem sp_none {l : Bs} {acc : List Bs} {u : Bs} {N : Nat} (h : (parseF N u).map (acc ++ ·) = parseF l.length l) (hu : parseF N u = none) : split l = none := by
  rw [hu] at h
  unfold split; split
  · rw [← h]; rfl
  · rfl
theorem sp_long {l : Bs} (h : 255 < (l.length : Int)) : split l = none := by unfold split; rw [if_neg (by omega)]
theorem pf_nil (N : Nat) : parseF N [] = none := by cases N <;> rfl
theorem pf_tail {N : Nat} {l r : Bs} {c : UInt8} (hl : l = c :: r) (h0 : c.toNat = 0) (hr : r ≠ []) : parseF N l = none := by
  subst hl; cases N with
  | zero => rfl
  | succ N => simp only [parseF]; rw [if_pos h0, if_neg hr]
theorem pf_bad {N : Nat} {l r : Bs} {c : UInt8} (hl : l = c :: r) (h0 : c.toNat ≠ 0) (hr : 63 < c.toNat ∨ r.length < c.toNat) : parseF N l = none := by
  subst hl; cases N with
  | zero => rfl
  | succ N => simp only [parseF]; rw [if_neg h0, if_pos hr]
theorem sp_end {l : Bs} {acc : List Bs} {u r : Bs} {c : UInt8} {N : Nat} (h : (parseF N u).map (acc ++ ·) = parseF l.length l) (hN : 0 < N) (hl : u = c :: r) (h0 : c.toNat = 0) (hr : r = []) (hlen : (l.length : Int) ≤ 255) : split l = some acc := by
  obtain ⟨M, rfl⟩ : ∃ M, N = M + 1 := ⟨N - 1, by omega⟩
  subst hl
  simp only [parseF] at h
  rw [if_pos h0, if_pos hr] at h
  unfold split; rw [if_pos (by omega), ← h]; simp
theorem sp_next {R : Option (List Bs)} {acc : List Bs} {u r : Bs} {c : UInt8} {N M : Nat} (h : (parseF N u).map (acc ++ ·) = R) (hN : u.length ≤ N) (hl : u = c :: r) (h0 : c.toNat ≠ 0) (hr : ¬ (63 < c.toNat ∨ r.length < c.toNat)) (hM : (r.drop c.toNat).length ≤ M) : (parseF M (r.drop c.toNat)).map ((acc ++ [r.take c.toNat]) ++ ·) = R := by
  subst hl
  obtain ⟨K, rfl⟩ : ∃ K, N = K + 1 := ⟨N - 1, by simp at hN; omega⟩
  simp only [parseF] at h
  rw [if_neg h0, if_neg hr] at h
  rw [parse_fuel M K _ hM (by simp at hN ⊢; omega), ← h]
  cases parseF K (r.drop c.toNat) <;> simp

set_option maxRecDepth 100000 in
set_option maxHeartbeats 2000000 in
theorem split_any (s : ByteArray) (w : World) (hs : s.size ≤ 1099511627776) :
    Calls Tryz.prog 141 #[.string s] w (SplitPost w s.data.toList) := by
  obtain ⟨i0, hi, hz0, hz1, hz2⟩ := info_parts infoStr
  go_enter Tryz.func141, Tryz.ntmps141
  go_wp2
  go_loopg [4, 5] (s.size + 1) (fun gas ov uv wr => ∃ (u : ByteArray) (acc : List Bs), uv = .string u ∧ Hid (ov = .slice none 0 0 ↔ acc = []) ∧ wr.ownsRow w.heap.size 9 1 ov acc.length (acc.map strV) ∧ Below w.heap.size w wr ∧ u.size < gas ∧ u.size ≤ s.size ∧ acc.length + u.size ≤ s.size ∧
    Hid ((parseF u.size u.data.toList).map (acc ++ ·) = parseF s.data.toList.length s.data.toList))
  case atStart => exact ⟨s, [], rfl, Lib.hid (by simp), World.ownsRow_nil _ _ _ _, Below.refl _ _, by omega, by omega, by simp, Lib.hid (by simp)⟩
  case round =>
    obtain ⟨u, acc, rfl, HNI, hown, hB, hgas, hus, hacc, HP⟩ := hrel
    by_cases he : u.toList = []
    · have HN := Lib.hid (sp_none HP.out (by rw [(empty_iff u).1 he]; exact pf_nil _))
      go_wp2
      go_ret2
      exact ⟨hB, .inr ⟨HN.out, none, 0, 0, rfl⟩⟩
    have he' : u.toList.isEmpty = false := by simpa using he
    have hlt : 0 < u.size := by
      have : u.data.toList ≠ [] := fun h => he ((empty_iff u).2 h)
      have := List.length_pos_iff.2 this
      simpa using this
    clear he
    have HD : Hid (u.data.toList = u[0] :: u.data.toList.drop 1) := Lib.hid (by have := drop_cons u 0 hlt; simpa using this)
    have h255 : (u[0].toNat : Int) ≤ 255 := by have := u[0].toNat_lt; omega
    by_cases hz : u[0].toNat = 0
    · have hz' : ((u[0].toNat : Int) == 0) = true := by simp [hz]
      by_cases h1 : u.size = 1
      · have h1' : ((u.size : Int) == 1) = true := by simp [h1]
        have hr : u.data.toList.drop 1 = [] := drop_end u 1 (by omega)
        by_cases hl : (s.size : Int) ≤ 255
        · have HY := Lib.hid (sp_end HP.out (by omega) HD.out hz hr (by simpa using hl))
          clear hz h1 hr
          go_wp2
          go_ret2
          exact ⟨hB, .inl ⟨_, _, HY.out, rfl, SV.of_own hown HNI.out⟩⟩
        · have HY := Lib.hid (sp_long (l := s.data.toList) (by simp; omega))
          have hdec : decide ((s.size : Int) ≤ 255) = false := by simpa using hl
          obtain ⟨a, c, rfl, _⟩ := Rd.of_own hown
          clear hz h1 hr
          go_wp2
          go_ret2
          exact ⟨hB, .inr ⟨HY.out, _, _, _, rfl⟩⟩
      · have h1' : ((u.size : Int) == 1) = false := by simp; omega
        have hr : u.data.toList.drop 1 ≠ [] := by
          intro h; have := congrArg List.length h; simp at this; omega
        have HY := Lib.hid (sp_none HP.out (pf_tail HD.out hz hr))
        obtain ⟨a, c, rfl, _⟩ := Rd.of_own hown
        clear hz h1 hr
        go_wp2
        go_ret2
        exact ⟨hB, .inr ⟨HY.out, _, _, _, rfl⟩⟩
    · have hz' : ((u[0].toNat : Int) == 0) = false := by simp; omega
      have HL : Hid ((u.data.toList.drop 1).length = u.size - 1) := Lib.hid (by simp)
      by_cases h63 : 63 < (u[0].toNat : Int)
      · have HY := Lib.hid (sp_none HP.out (pf_bad HD.out hz (.inl (by omega))))
        clear hz
        go_wp2
        go_ret2
        exact ⟨hB, .inr ⟨HY.out, none, 0, 0, rfl⟩⟩
      · have h63' : (u[0].toNat : Int) ≤ 63 := by omega
        clear h63
        by_cases hfit : (u.size : Int) < 1 + (u[0].toNat : Int)
        · have HY := Lib.hid (sp_none HP.out (pf_bad HD.out hz (.inr (by have := HL.out; omega))))
          clear hz
          go_wp2
          go_ret2
          exact ⟨hB, .inr ⟨HY.out, none, 0, 0, rfl⟩⟩
        · have hfit' : 1 + (u[0].toNat : Int) ≤ (u.size : Int) := by omega
          have hpos : 1 ≤ (u[0].toNat : Int) := by omega
          have HST := fun M hM => sp_next (M := M) HP.out (by simp) HD.out hz (by have := HL.out; omega) hM
          have HS := Lib.hid HST; clear HST hfit hz
          have hx : (u.extract 1 (1 + u[0].toNat)).data.toList = (u.data.toList.drop 1).take u[0].toNat := by
            rw [Lib.extract_data]; congr 1; omega
          have HX : Hid (Value.string (u.extract 1 (1 + u[0].toNat)) = strV ((u.data.toList.drop 1).take u[0].toNat)) := Lib.hid (congrArg Value.string (ba_ext hx))
          clear hx
          have hsz := hB.size
          go_wp2_with (at_builtin; refine wpList_append_own _ rfl _ _ 55 rfl w.heap.size 9 i0 (.string ByteArray.empty) 1 16 Tryz.underlying55 hi hz0 hz1 hz2 rfl (by decide) _ _ _ rfl (hown.alloc _) ⟨wr.heap.size, 0, none⟩ 1 1 [.string (u.extract 1 (1 + u[0].toNat))] rfl rfl ?c1 ?c2 ?c3 ?c4 ?c5 ?_)
          case c1 => exact cell_one_new _ _ _
          case c2 => simp [Value.oneCell']
          case c3 => unfold maxLen; omega
          case c4 => omega
          case c5 => simp; omega
          intro v' w1 hown' hgrow hnil
          have HN2 := Lib.hid hnil; clear hnil
          have hown2 := own_snoc HX.out hown'
          have hB2 := below_append hB hsz hown hgrow
          clear hown' hgrow hown
          have hd : (u.extract (1 + u[0].toNat) u.size).data.toList = (u.data.toList.drop 1).drop u[0].toNat := by
            rw [Lib.extract_data, List.drop_drop, List.take_of_length_le (by simp)]
          have hsz2 : (u.extract (1 + u[0].toNat) u.size).size = u.size - (1 + u[0].toNat) := by rw [ByteArray.size_extract]; omega
          have HD2 := Lib.hid hd; have HZ2 := Lib.hid hsz2
          clear hd hsz2
          go_wp2
          go_roundg (gk - 1)
          case rel =>
            have hz2 := HZ2.out
            refine ⟨_, _, rfl, Lib.hid (by simpa using HN2.out), hown2, hB2, by omega, by omega, by simp; omega, Lib.hid ?_⟩
            rw [HD2.out]
            exact HS.out _ (by rw [← HD2.out]; simp)
          case measure => omega
theorem split_yes (s : ByteArray) (ls : List Bs) (w : World) (h : IsN s.data.toList ls) :
    Calls Tryz.prog 141 #[.string s] w fun e w' => ∃ v, e = .returned (.tuple #[v, .bool true]) ∧ SV w' v w.heap.size ls ∧ Below w.heap.size w w' := by
  have hs := h.2.2
  rw [size_len] at hs
  refine (split_any s w (by omega)).mono ?_
  rintro e w' ⟨hB, ⟨v, ls', h1, rfl, hown⟩ | ⟨h1, _⟩⟩
  · have := isN_inj h (split_iff.1 h1)
    subst this
    exact ⟨v, rfl, hown, hB⟩
  · rw [split_iff.2 h] at h1; simp at h1
theorem split_no (s : ByteArray) (w : World) (hs : s.size ≤ 1099511627776) (h : split s.data.toList = none) :
    Calls Tryz.prog 141 #[.string s] w fun e w' => ∃ a n c, e = .returned (.tuple #[.slice a n c, .bool false]) ∧ Below w.heap.size w w' := by
  refine (split_any s w hs).mono ?_
  rintro e w' ⟨hB, ⟨v, ls', h1, rfl, hown⟩ | ⟨h1, a, n, c, rfl⟩⟩
  · rw [h] at h1; simp at h1
  · exact ⟨a, n, c, rfl, hB⟩

def isB (s : ByteArray) : Bool := (split s.data.toList).isSome
theorem isB_yes {s : ByteArray} {ls : List Bs} (h : IsN s.data.toList ls) : isB s = true := by unfold isB; rw [split_iff.2 h]; rfl
theorem isB_no {s : ByteArray} (h : split s.data.toList = none) : isB s = false := by unfold isB; rw [h]; rfl
theorem isB_or (s : ByteArray) : (∃ ls, IsN s.data.toList ls) ∨ split s.data.toList = none := by
  cases h : split s.data.toList with
  | none => exact .inr rfl
  | some ls => exact .inl ⟨ls, split_iff.1 h⟩
set_option maxRecDepth 100000 in
theorem isName_any (s : ByteArray) (w : World) (hs : s.size ≤ 1099511627776) :
    Calls Tryz.prog 80 #[.string s] w fun e w' => e = .returned (.bool (isB s)) ∧ Below w.heap.size w w' := by
  rcases isB_or s with ⟨ls, h⟩ | h
  · have HI := Lib.hid (isB_yes h)
    have HH := Lib.hid h; clear h
    go_enter Tryz.func80, Tryz.ntmps80
    go_wp2_with fail
    refine (split_yes s ls _ HH.out).mono ?_
    rintro e w1 ⟨v, rfl, hsv, hB⟩
    obtain ⟨a, c, rfl, _⟩ := hsv.rd
    go_wp2
    go_ret
    exact ⟨ret_bool HI.out.symm, hB⟩
  · have HI := Lib.hid (isB_no h)
    have HH := Lib.hid h; clear h
    go_enter Tryz.func80, Tryz.ntmps80
    go_wp2_with fail
    refine (split_no s _ hs HH.out).mono ?_
    rintro e w1 ⟨a, n, c, rfl, hB⟩
    go_wp2
    go_ret
    exact ⟨ret_bool HI.out.symm, hB⟩
theorem chkE_isB (s : ByteArray) : check.chkE s = if isB s then 0 else 1 := chk_eq s
end Go.Proofs.YtnamkladeaohoaaGreat.rsplit
namespace Go.Proofs.YtnamkladeaohoaaGreat.low
open Go.RowKit Go.Proofs.YtnamkladeaohoaaGreat.kit

def lowB (c : UInt8) : UInt8 := if 65 ≤ c.toNat ∧ c.toNat ≤ 90 then c + 32 else c
def lowL (l : List UInt8) : List UInt8 := l.map lowB
def lowTo (k : Nat) (l : List UInt8) : List UInt8 := (l.take k).map lowB ++ l.drop k
theorem lowTo_length (k : Nat) (l : List UInt8) : (lowTo k l).length = l.length := by
  simp only [lowTo, List.length_append, List.length_map, List.length_take, List.length_drop]; omega
theorem lowTo_at (k : Nat) (l : List UInt8) (h : k ≤ l.length) : (lowTo k l)[k]? = l[k]? := by
  have e : ((l.take k).map lowB).length = k := by simp; omega
  simp only [lowTo]
  rw [List.getElem?_append_right (by omega), e]
  simp
theorem lowTo_succ (k : Nat) (l : List UInt8) (c : UInt8) (h : l[k]? = some c) : (lowTo k l).set k (lowB c) = lowTo (k + 1) l := by
  obtain ⟨h', rfl⟩ := List.getElem?_eq_some_iff.1 h
  have e : ((l.take k).map lowB).length = k := by simp; omega
  simp only [lowTo]
  rw [List.set_append, if_neg (by omega), e, Nat.sub_self, List.drop_eq_getElem_cons h', List.set_cons_zero, List.take_succ_eq_append_getElem h', List.map_append, List.append_assoc]
  rfl
theorem lowTo_skip (k : Nat) (l : List UInt8) (c : UInt8) (h : l[k]? = some c) (hc : lowB c = c) : lowTo k l = lowTo (k + 1) l := by
  rw [← lowTo_succ k l c h, hc]
  have h1 := (List.getElem?_eq_some_iff.1 h).1
  have h' : k < (lowTo k l).length := by rw [lowTo_length]; exact h1
  have h2 : (lowTo k l)[k]? = some c := by rw [lowTo_at k l (by omega), h]
  obtain ⟨h3, h4⟩ := List.getElem?_eq_some_iff.1 h2
  rw [← h4]
  exact (List.set_getElem_self h3).symm
theorem lowTo_all (l : List UInt8) : lowTo l.length l = lowL l := by simp [lowTo, lowL]
theorem lowTo_zero (l : List UInt8) : lowTo 0 l = l := by simp [lowTo]

theorem up_val (c : UInt8) (h : 65 ≤ c.toNat ∧ c.toNat ≤ 90) : ((lowB c).toNat : Int) = (c.toNat : Int) + 32 := by
  simp only [lowB, if_pos h, UInt8.toNat_add]
  have : (32 : UInt8).toNat = 32 := rfl
  omega
theorem lowB_id (c : UInt8) (h : ¬ (65 ≤ c.toNat ∧ c.toNat ≤ 90)) : lowB c = c := by simp only [lowB, if_neg h]

set_option maxHeartbeats 400000 in
theorem low_any (s : ByteArray) (w : World) (hs : s.size ≤ maxLen) :
    Calls Tryz.prog 165 #[.string s] w fun e w' => e = .returned (.string ⟨(lowL s.data.toList).toArray⟩) ∧ Below w.heap.size w w' := by
  unfold maxLen at hs
  have hconv := Lib.run_convert_string_bytes (P := Tryz.prog) w 9 61 5 s Tryz.underlying9 Tryz.underlying61 Tryz.underlying5
  have hB := bytesWorld_below w 5 s
  have hb0 := bytes_new w 5 s
  generalize grownCap w s.size 0 5 = cap at hconv
  generalize Lib.bytesWorld w 5 s = w1 at hconv hB hb0
  have H0 := Lib.hid hb0; clear hb0
  go_enter Tryz.func165, Tryz.ntmps165
  go_wp2
  clear hconv
  go_loopw [4, 9] (fun _ i wr => ∃ k : Nat, k ≤ s.size ∧ i = .int .i64 k ∧ Below w.heap.size w wr ∧ Hid (Bytes wr w.heap.size (lowTo k s.data.toList))) (fun _ i _ => s.size - (intOf i).toNat)
  case atStart => exact ⟨0, Nat.zero_le _, rfl, hB, by rw [lowTo_zero]; exact H0⟩
  case round =>
    obtain ⟨k, hk, rfl, hBr, hbr⟩ := hrel
    clear hB H0
    by_cases hlt : k < s.size
    · obtain ⟨c, hc⟩ : ∃ c, s.data.toList[k]? = some c := ⟨_, List.getElem?_eq_getElem (by simpa using hlt)⟩
      obtain ⟨hcell, hfr⟩ := hbr.out k c (by rw [lowTo_at k _ (by simpa using hk)]; exact hc)
      have HC := Lib.hid hc
      clear hc
      obtain ⟨n, hn, hn0, hn1, hup, hlo⟩ : ∃ n : Int, n = (c.toNat : Int) ∧ 0 ≤ n ∧ n < 256 ∧ (65 ≤ n ∧ n ≤ 90 → ((lowB c).toNat : Int) = n + 32) ∧ (¬ (65 ≤ n ∧ n ≤ 90) → lowB c = c) :=
        ⟨_, rfl, by omega, byte_lt c, fun h => up_val c (by omega), fun h => lowB_id c (by omega)⟩
      rw [← hn] at hcell
      have HU := Lib.hid hup; have HL := Lib.hid hlo; have HN := Lib.hid hn
      clear hup hlo hn
      by_cases hup : 65 ≤ n ∧ n ≤ 90
      · have hlow := HU.out hup
        have hset := bytes_set hbr.out k (lowB c)
        rw [lowTo_succ k _ c HC.out, hlow] at hset
        have HS := Lib.hid hset; clear hset
        have HW := Lib.hid hlow; clear hlow
        obtain ⟨h1, h2⟩ := hup
        go_wp2
        exact ⟨⟨k + 1, by omega, by go_num, hBr.setCell (Nat.le_refl _) _, HS⟩, by simp [intOf]; omega⟩
      · have hsk := lowTo_skip k _ c HC.out (HL.out hup)
        have HS := Lib.hid hsk; clear hsk
        by_cases h1 : 65 ≤ n
        · have h2 : ¬ n ≤ 90 := by omega
          clear hup
          go_wp2
          exact ⟨⟨k + 1, by omega, by go_num, hBr, by rw [← HS.out]; exact hbr⟩, by simp [intOf]; omega⟩
        · clear hup
          go_wp2
          exact ⟨⟨k + 1, by omega, by go_num, hBr, by rw [← HS.out]; exact hbr⟩, by simp [intOf]; omega⟩
    · have hke : k = s.data.toList.length := by simp; omega
      have hfin := hbr.out
      rw [hke, lowTo_all] at hfin
      have hback := bytes_back (P := Tryz.prog) hfin 61 9 5 cap s.size (by simp [lowL]) Tryz.underlying61 Tryz.underlying5 Tryz.underlying9
      clear hfin
      have HK := Lib.hid hke; clear hke
      go_wp2
      go_ret
      exact ⟨rfl, hBr⟩

/-- Number -/
def numLoop (top : Int) : List UInt8 → Int → Int
  | [], v => if top < v then -1 else v
  | c :: r, v => if c.toNat < 48 then -1 else if 57 < c.toNat then -1 else numLoop top r (v * 10 + (c.toNat : Int) - 48)
def numSpec (s : List UInt8) (most top : Int) : Int := if s = [] then -1 else if most < s.length then -1 else numLoop top s 0

theorem num_nil {s : ByteArray} (most top : Int) (h : s.toList = []) : -1 = numSpec s.data.toList most top := by
  rw [Lib.toList_data] at h; simp [numSpec, h]
theorem num_long {s : ByteArray} (most top : Int) (h : s.toList.isEmpty = true ∨ most < (s.size : Int)) : -1 = numSpec s.data.toList most top := by
  rw [Lib.toList_data] at h
  simp only [numSpec]
  by_cases h0 : s.data.toList = []
  · simp [h0]
  · rw [if_neg h0, if_pos]
    rcases h with h | h
    · simp at h; simp [h] at h0
    · simpa using h
theorem num_start {s : ByteArray} (most top : Int) (h : s.toList.isEmpty = false ∧ (s.size : Int) ≤ most) : numLoop top (s.data.toList.drop 0) 0 = numSpec s.data.toList most top := by
  rw [Lib.toList_data] at h
  obtain ⟨h1, h2⟩ := h
  simp only [numSpec]
  rw [if_neg (by intro h; simp [h] at h1), if_neg (by simp; exact h2)]
  simp

/-- the greatest number of k digits -/
def nines : Nat → Int
  | 0 => 0
  | k + 1 => 10 * nines k + 9
theorem nines_mono (a b : Nat) (h : a ≤ b) : nines a ≤ nines b := by
  induction b with
  | zero => have : a = 0 := by omega
            subst this; exact Int.le_refl _
  | succ b ih =>
    have h0 : ∀ k, 0 ≤ nines k := by
      intro k; induction k with
      | zero => simp [nines]
      | succ k ih => simp only [nines]; omega
    by_cases e : a = b + 1
    · subst e; exact Int.le_refl _
    · have := ih (by omega); have := h0 b; simp only [nines]; omega
theorem nines_ten (a : Nat) (h : (a : Int) ≤ 10) : nines a ≤ 9999999999 := by
  have := nines_mono a 10 (by omega); simpa [nines] using this

theorem num_lo {l : List UInt8} {r : List UInt8} {c : UInt8} {top n v : Int} (hd : l = c :: r) (h : numLoop top l n = v) (hc : (c.toNat : Int) < 48) : -1 = v := by
  subst hd; rw [← h]; simp only [numLoop]; rw [if_pos (by omega)]
theorem num_hi {l : List UInt8} {r : List UInt8} {c : UInt8} {top n v : Int} (hd : l = c :: r) (h : numLoop top l n = v) (_h1 : (48 : Int) ≤ c.toNat) (hc : 57 < (c.toNat : Int)) : -1 = v := by
  subst hd; rw [← h]; simp only [numLoop]; rw [if_neg (by omega), if_pos (by omega)]
theorem num_step {l : List UInt8} {r : List UInt8} {c : UInt8} {top n v : Int} (hd : l = c :: r) (h : numLoop top l n = v) (h1 : (48 : Int) ≤ c.toNat) (hc : (c.toNat : Int) ≤ 57) : numLoop top r (n * 10 + (c.toNat : Int) - 48) = v := by
  subst hd; rw [← h]; simp only [numLoop]; rw [if_neg (by omega), if_neg (by omega)]
theorem num_over {top n v : Int} (h : numLoop top [] n = v) (hc : top < n) : -1 = v := by
  rw [← h]; simp only [numLoop]; rw [if_pos hc]
theorem num_end {top n v : Int} (h : numLoop top [] n = v) (hc : n ≤ top) : n = v := by
  rw [← h]; simp only [numLoop]; rw [if_neg (by omega)]

end Go.Proofs.YtnamkladeaohoaaGreat.low
