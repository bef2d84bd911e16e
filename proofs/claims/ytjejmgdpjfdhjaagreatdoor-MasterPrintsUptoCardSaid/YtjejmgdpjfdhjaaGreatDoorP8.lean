/- data.To32: walk. Bytes as a number: seal.number, gazetteerref1.Value: walks. Bytes as a number: data.small: walk. How many bytes a field takes: the short ones of data: walks. How many bytes a row of texts takes: data.texts.take: walk. -/
import Derived.Test.YtjejmgdpjfdhjaaGreatDoorP7
import Derived.Test.YtjejmgdpjfdhjaaGreatDoorP2
import Derived.Laws.BitsLemmas
namespace Go.Proofs.YtjejmgdpjfdhjaaGreatDoor.to32
open Go.RowKit Go.Proofs.YtjejmgdpjfdhjaaGreatDoor.kit Go.Proofs.YtjejmgdpjfdhjaaGreatDoor.bits Go.Proofs.YtjejmgdpjfdhjaaGreatDoor.bld

def set32 : List UInt8 := [48, 49, 50, 51, 52, 53, 54, 55, 56, 57, 97, 98, 99, 100, 101, 102, 103, 104, 105, 106, 107, 108, 109, 110, 111, 112, 113, 114, 115, 116, 117, 118]
def to32S (d : List UInt8) : List UInt8 := enc 5 set32 (bitsL d)

theorem wraps31 (n : Int) (h₀ : 0 ≤ n) (h₁ : n < 2 ^ 31) : IntKind.i64.wrap n = n := by rw [IntKind.wrap_i64]; omega
theorem or8 {x y : Int} (hx₀ : 0 ≤ x) (hx : x % 256 = 0) (hx₁ : x < 2147483648) (h₀ : 0 ≤ y) (h₁ : y < 256) : bits .or .i64 x y = x + y :=
  bits_join .i64 31 (by decide) wraps31 8 x y hx₀ hx hx₁ h₀ h₁ (by omega)
theorem and4095 {x : Int} (h₀ : 0 ≤ x) (h₁ : x < 2147483648) : bits .and .i64 x 4095 = x % 4096 := bits_mask .i64 31 (by decide) wraps31 12 (by decide) x h₀ h₁
theorem and31 {x : Int} (h₀ : 0 ≤ x) (h₁ : x < 2147483648) : bits .and .i64 x 31 = x % 32 := bits_mask .i64 31 (by decide) wraps31 5 (by decide) x h₀ h₁

theorem idx32 (v : Nat) (h : v < 32) : Value.int .u8 (((⟨#[48, 49, 50, 51, 52, 53, 54, 55, 56, 57, 97, 98, 99, 100, 101, 102, 103, 104, 105, 106, 107, 108, 109, 110, 111, 112, 113, 114, 115, 116, 117, 118]⟩ : ByteArray)[v]'h).toNat : Int) = Value.int .u8 ((set32.getD v 0).toNat : Int) := by
  rw [← getD_at]; rfl

set_option maxRecDepth 100000 in
set_option maxHeartbeats 2000000 in
theorem nto32_any (s : ByteArray) (w : World) (hs : s.size ≤ 1099511627776) :
    Calls Tryz.prog 139 #[.string s] w fun e w' => e = .returned (.string ⟨(to32S s.data.toList).toArray⟩) ∧ Below w.heap.size w w' := by
  obtain ⟨R, HR⟩ : ∃ R, Hid (to32S s.data.toList = R) := ⟨_, Lib.hid rfl⟩
  have hRl : R.length ≤ 8 * s.size := by
    rw [← HR.out]
    have h1 := enc_len 5 set32 (by omega) (bitsL s.data.toList)
    rw [bitsL_len, size_len] at h1
    exact h1
  rw [HR.out]
  have hfb := Lib.fresh_isBuilder 53 5 w
  have hBa := (Below.refl w.heap.size w).alloc (Nat.le_refl _) (.cells #[.pointer none, .slice none 0 0] 53)
  go_enter Tryz.func139, Tryz.ntmps139
  go_wp2
  go_loopg [4, 5, 9] (s.size + 1) (fun gas hv bv kv wr => ∃ (k h b : Nat) (A : List UInt8), hv = .int .i64 h ∧ bv = .int .i64 b ∧ kv = .int .i64 k ∧ h < 4096 ∧ b < 5 ∧ k ≤ s.size ∧ k + gas = s.size + 1 ∧ Hid (A ++ enc 5 set32 (tob h b ++ bitsL (s.data.toList.drop k)) = R) ∧ Bld w.heap.size w.heap.size A wr ∧ Below w.heap.size w wr)
  case atStart => exact ⟨0, 0, 0, [], rfl, rfl, rfl, by omega, by omega, by omega, by omega, HR, hfb, hBa⟩
  case round =>
    obtain ⟨k, h, b, A, rfl, rfl, rfl, hh, hb, hk, hkg, HW, hA, hB⟩ := hrel
    obtain ⟨gk', hgk'⟩ : ∃ g, g = gk := ⟨_, rfl⟩
    rw [← hgk'] at hkg
    have HK := Lib.hid hkg; clear hkg
    by_cases hlt : k < s.size
    · have hc256 := byte_lt s[k]
      have HOR := Lib.hid (or8 (x := (h : Int) * 256) (y := (s[k].toNat : Int)) (by omega) (by omega) (by omega) (by omega) hc256)
      obtain ⟨H, hH⟩ : ∃ H : Nat, (h * 256 + s[k].toNat) % 4096 = H := ⟨_, rfl⟩
      have hH4 : H < 4096 := by omega
      have HSTEP := Lib.hid (to_step HW.out (drop_cons s k hlt) (by omega) hH)
      have HAND : Hid (bits .and .i64 ((h : Int) * 256 + (s[k].toNat : Int)) 4095 = (H : Int)) := Lib.hid (by
        rw [and4095 (x := (h : Int) * 256 + (s[k].toNat : Int)) (by omega) (by omega)]; omega)
      have HW64 := Lib.hid (IntWalk.wrap64_in (s[k].toNat : Int) (by omega))
      clear hH
      have hor := congrArg (Value.int .i64) HOR.out
      have hand := congrArg (Value.int .i64) HAND.out
      have hw64 := congrArg (Value.int .i64) HW64.out
      go_wp2
      clear hor hand hw64
      go_loopg [5] 3 (fun gas bv wq => ∃ (b : Nat) (A : List UInt8), bv = .int .i64 b ∧ b < 13 ∧ b < 5 * gas ∧ Hid (A ++ enc 5 set32 (tob H b ++ bitsL (s.data.toList.drop (k + 1))) = R) ∧ Bld w.heap.size w.heap.size A wq ∧ Below w.heap.size w wq)
      case atStart => exact ⟨b + 8, A, by go_num, by omega, by omega, HSTEP, hA, hB⟩
      case round =>
        clear HSTEP hA hB HW
        obtain ⟨b', A', rfl, hb', hbg, HV, hA', hB'⟩ := hrel
        by_cases h5 : 5 ≤ b'
        · obtain ⟨q, hq⟩ : ∃ q, b' = q + 5 := ⟨b' - 5, by omega⟩
          have HQ := Lib.hid hq
          have h5i : (5 : Int) ≤ (b' : Int) := by omega
          have hq8 : (q : Int) < 8 := by omega
          obtain ⟨v, hv⟩ : ∃ v : Nat, H / 2 ^ q % 32 = v := ⟨_, rfl⟩
          have hv32 : v < 32 := by omega
          have HENC : Hid ((A' ++ [set32.getD v 0]) ++ enc 5 set32 (tob H q ++ bitsL (s.data.toList.drop (k + 1))) = R) := Lib.hid (by
            have h1 := HV.out
            rw [hq] at h1
            have h2 := to_letter (H := H) (q := q) h1 (by omega)
            rw [show (2 : Nat) ^ 5 = 32 from rfl, hv] at h2
            exact h2)
          have hAl : A'.length ≤ R.length := by have h1 := HV.out; rw [← h1]; simp
          have HWB := Lib.hid (wb w.heap.size w.heap.size A' (set32.getD v 0) wr hA' (by omega) (by have := hB'.size; omega))
          have hsub : Value.int .i64 ((b' : Int) - 5) = Value.int .i64 (q : Int) := by congr 1; omega
          have HAN2 : Hid (bits .and .i64 ((H : Int) / 2 ^ q) 31 = (v : Int)) := Lib.hid (by
            obtain ⟨Z, hZ⟩ : ∃ Z : Nat, H / 2 ^ q = Z := ⟨_, rfl⟩
            have e1 : (H : Int) / 2 ^ q = (Z : Int) := by rw [← hZ]; simp
            have e2 : Z ≤ H := by rw [← hZ]; exact Nat.div_le_self _ _
            rw [hZ] at hv
            rw [e1, and31 (by omega) (by omega)]; omega)
          have hx := idx32 v hv32
          have hand2 := congrArg (Value.int .i64) HAN2.out
          clear hq hv
          go_wp2_with fail
          refine HWB.out.mono ?_
          rintro e v1 ⟨rfl, hb1, hE1⟩
          clear hand2 hx
          go_wp2
          go_roundg (gk - 1)
          case rel => exact ⟨q, _, rfl, by omega, by have := HQ.out; omega, HENC, hb1, hB'.trans hE1⟩
          case measure => omega
        · have hd5 : decide (5 ≤ (b' : Int)) = false := by simp; omega
          go_wp2
          have hkg := HK.out
          go_roundg (gk' - 1)
          case rel => exact ⟨k + 1, H, b', A', rfl, rfl, by go_num, hH4, by omega, by omega, by omega, HV, hA', hB'⟩
          case measure => omega
    · have hkk : s.data.toList.drop k = [] := drop_end s k (by omega)
      have HN := HW.out
      rw [hkk] at HN
      have hAl : A.length ≤ R.length := by rw [← HN]; simp
      by_cases hb0 : 0 < b
      · obtain ⟨d, hd⟩ : ∃ d, 5 - b = d := ⟨_, rfl⟩
        obtain ⟨v, hv⟩ : ∃ v : Nat, h * 2 ^ d % 32 = v := ⟨_, rfl⟩
        have hv32 : v < 32 := by omega
        have HL := to_last HN hb0 (by omega)
        rw [hd, show (2 : Nat) ^ 5 = 32 from rfl, hv] at HL
        have HLH := Lib.hid HL
        have HWB := Lib.hid (wb w.heap.size w.heap.size A (set32.getD v 0) wr hA (by omega) (by have := hB.size; omega))
        have hx := idx32 v hv32
        have hd5 : d < 5 := by omega
        have hsub : Value.int .i64 (5 - (b : Int)) = Value.int .i64 (d : Int) := by congr 1; omega
        have HAN : Hid (bits .and .i64 (wrap64 ((h : Int) * 2 ^ d)) 31 = (v : Int)) := Lib.hid (by
          obtain ⟨Z, hZ⟩ : ∃ Z : Nat, h * 2 ^ d = Z := ⟨_, rfl⟩
          have e1 : (h : Int) * 2 ^ d = (Z : Int) := by rw [← hZ]; simp
          have e2 : Z ≤ 4096 * 16 := by
            rw [← hZ]
            exact Nat.mul_le_mul (by omega) (show 2 ^ d ≤ 2 ^ 4 from Nat.pow_le_pow_right (by omega) (by omega))
          rw [hZ] at hv
          rw [e1, IntWalk.wrap64_in _ (by omega), and31 (by omega) (by omega)]; omega)
        have hand := congrArg (Value.int .i64) HAN.out
        clear HL HN hkk hd hv
        go_wp2_with fail
        refine HWB.out.mono ?_
        rintro e v1 ⟨rfl, hb1, hE1⟩
        rw [HLH.out] at hb1
        clear hand hx hsub
        have hv1 := hE1.size
        have hv0 := hB.size
        go_wp2_with fail
        refine (Tryz.Builder_String_any _ _ R _ hb1 (by omega)).mono ?_
        rintro e v2 ⟨rfl, hE2⟩
        go_wp2
        go_ret
        exact ⟨rfl, (hB.trans hE1).trans hE2⟩
      · have hb00 : b = 0 := by omega
        subst hb00
        have HRR := Lib.hid (to_end HN)
        clear HN hkk
        rw [HRR.out] at hA
        have hv0 := hB.size
        go_wp2_with fail
        refine (Tryz.Builder_String_any _ _ R _ hA (by omega)).mono ?_
        rintro e v2 ⟨rfl, hE2⟩
        go_wp2
        go_ret
        exact ⟨rfl, hB.trans hE2⟩
end Go.Proofs.YtjejmgdpjfdhjaaGreatDoor.to32
namespace Go.Proofs.YtjejmgdpjfdhjaaGreatDoor.val
open Go.RowKit Go.Proofs.YtjejmgdpjfdhjaaGreatDoor.kit
set_option linter.unusedVariables false

def valL : List UInt8 → Nat → Nat
  | [], v => v
  | c :: r, v => valL r (v * 256 + c.toNat)
theorem wraps62 (n : Int) (h₀ : 0 ≤ n) (h₁ : n < 2 ^ 62) : IntKind.i64.wrap n = n := by rw [IntKind.wrap_i64]; omega
theorem or8b {x y : Int} (hx₀ : 0 ≤ x) (hx : x % 256 = 0) (hx₁ : x < 4611686018427387904) (h₀ : 0 ≤ y) (h₁ : y < 256) : bits .or .i64 x y = x + y :=
  bits_join .i64 62 (by decide) wraps62 8 x y hx₀ hx hx₁ h₀ h₁ (by omega)

set_option maxRecDepth 100000 in
set_option maxHeartbeats 1000000 in
theorem rvalue_any (s : ByteArray) (w : World) (hs : s.size ≤ 4) :
    Calls Tryz.prog 43 #[.string s] w fun e w' => e = .returned (.int .i64 ((valL s.data.toList 0 : Nat) : Int)) ∧ w = w' := by
  obtain ⟨F, HF⟩ : ∃ F, Hid (valL (s.data.toList.drop 0) 0 = F) := ⟨_, Lib.hid rfl⟩
  rw [show s.data.toList = s.data.toList.drop 0 from rfl, HF.out]
  go_enter Tryz.func43, Tryz.ntmps43
  go_wp2
  go_loopg [3, 4] (s.size + 1) (fun gas sv kv wr => ∃ (k S : Nat), kv = .int .i64 k ∧ sv = .int .i64 S ∧ k ≤ s.size ∧ k + gas = s.size + 1 ∧ S < 1099511627776 ∧ Hid (S < 256 ^ k) ∧ Hid (valL (s.data.toList.drop k) S = F) ∧ w = wr)
  case atStart => exact ⟨0, 0, rfl, rfl, by omega, by omega, by omega, Lib.hid (by decide), HF, rfl⟩
  case round =>
    obtain ⟨k, S, rfl, rfl, hk, hkg, hS, HP, HW, rfl⟩ := hrel
    have HK := Lib.hid hkg; clear hkg
    by_cases hlt : k < s.size
    · obtain ⟨c, hc⟩ : ∃ c, s[k] = c := ⟨_, rfl⟩
      have hc256 := byte_lt c
      have HW2 : Hid (valL (s.data.toList.drop (k + 1)) (S * 256 + c.toNat) = F) := Lib.hid (by rw [← HW.out, drop_cons s k hlt, hc, valL])
      have HP2 : Hid (S * 256 + c.toNat < 256 ^ (k + 1)) := Lib.hid (by have := HP.out; rw [Nat.pow_succ]; omega)
      have hb : S * 256 + c.toNat < 1099511627776 := by
        have h1 := HP2.out
        have h2 : 256 ^ (k + 1) ≤ 256 ^ 4 := Nat.pow_le_pow_right (n := 256) (by omega) (show k + 1 ≤ 4 by omega)
        omega
      go_wp2
      have hkg := HK.out
      go_roundg (gk - 1)
      case rel => exact ⟨k + 1, S * 256 + c.toNat, by go_num, (by first | rfl | go_num | (congr 1; omega)), by omega, by omega, hb, HP2, HW2, rfl⟩
      case measure => omega
    · have HN := HW.out
      rw [drop_end s k (by omega)] at HN
      have hSF : S = F := HN
      subst hSF
      clear HN
      go_wp2
      go_ret
      exact ⟨rfl, rfl⟩

end Go.Proofs.YtjejmgdpjfdhjaaGreatDoor.val
namespace Go.Proofs.YtjejmgdpjfdhjaaGreatDoor.small
open Go.RowKit Go.Proofs.YtjejmgdpjfdhjaaGreatDoor.kit Go.Proofs.YtjejmgdpjfdhjaaGreatDoor.val
set_option linter.unusedVariables false

set_option maxRecDepth 100000 in
set_option maxHeartbeats 1000000 in
theorem small_any (s : ByteArray) (w : World) (hs : s.size ≤ 4) :
    Calls Tryz.prog 101 #[.string s] w fun e w' => e = .returned (.int .i64 ((valL s.data.toList 0 : Nat) : Int)) ∧ w = w' := by
  obtain ⟨F, HF⟩ : ∃ F, Hid (valL (s.data.toList.drop 0) 0 = F) := ⟨_, Lib.hid rfl⟩
  rw [show s.data.toList = s.data.toList.drop 0 from rfl, HF.out]
  go_enter Tryz.func101, Tryz.ntmps101
  go_wp2
  go_loopg [3, 4, 7] (s.size + 1) (fun gas sv _ kv wr => ∃ (k S : Nat), kv = .int .i64 k ∧ sv = .int .i64 S ∧ k ≤ s.size ∧ k + gas = s.size + 1 ∧ S < 1099511627776 ∧ Hid (S < 256 ^ k) ∧ Hid (valL (s.data.toList.drop k) S = F) ∧ w = wr)
  case atStart => exact ⟨0, 0, rfl, rfl, by omega, by omega, by omega, Lib.hid (by decide), HF, rfl⟩
  case round =>
    obtain ⟨k, S, rfl, rfl, hk, hkg, hS, HP, HW, rfl⟩ := hrel
    have HK := Lib.hid hkg; clear hkg
    by_cases hlt : k < s.size
    · obtain ⟨c, hc⟩ : ∃ c, s[k] = c := ⟨_, rfl⟩
      have hc256 := byte_lt c
      have HW2 : Hid (valL (s.data.toList.drop (k + 1)) (S * 256 + c.toNat) = F) := Lib.hid (by rw [← HW.out, drop_cons s k hlt, hc, valL])
      have HP2 : Hid (S * 256 + c.toNat < 256 ^ (k + 1)) := Lib.hid (by have := HP.out; rw [Nat.pow_succ]; omega)
      have hb : S * 256 + c.toNat < 1099511627776 := by
        have h1 := HP2.out
        have h2 : 256 ^ (k + 1) ≤ 256 ^ 4 := Nat.pow_le_pow_right (n := 256) (by omega) (show k + 1 ≤ 4 by omega)
        omega
      have x1 := congrArg (Value.int .i64) (or8b (x := (S : Int) * 256) (y := (c.toNat : Int)) (by omega) (by omega) (by omega) (by omega) hc256)
      go_wp2
      have hkg := HK.out
      clear x1
      go_roundg (gk - 1)
      case rel => exact ⟨k + 1, S * 256 + c.toNat, by go_num, (by first | rfl | go_num | (rw [or8b (by omega) (by omega) (by omega) (by omega) hc256]; congr 1; omega) | (rw [or8b (by omega) (by omega) (by omega) (by omega) hc256]; go_num)), by omega, by omega, hb, HP2, HW2, rfl⟩
      case measure => omega
    · have HN := HW.out
      rw [drop_end s k (by omega)] at HN
      have hSF : S = F := HN
      subst hSF
      clear HN
      go_wp2
      go_ret
      exact ⟨rfl, rfl⟩
end Go.Proofs.YtjejmgdpjfdhjaaGreatDoor.small
namespace Go.Proofs.YtjejmgdpjfdhjaaGreatDoor.takes
open Go.RowKit Go.Proofs.YtjejmgdpjfdhjaaGreatDoor.kit Go.Proofs.YtjejmgdpjfdhjaaGreatDoor.nspec Go.Proofs.YtjejmgdpjfdhjaaGreatDoor.val Go.Proofs.YtjejmgdpjfdhjaaGreatDoor.small Go.Proofs.YtjejmgdpjfdhjaaGreatDoor.fld
set_option linter.unusedVariables false

theorem emp_yes {s : ByteArray} (h : s.size = 0) : s.toList = [] := by rw [Lib.toList_data]; exact List.eq_nil_of_length_eq_zero (by rw [size_len]; exact h)
theorem emp_no {s : ByteArray} (h : 0 < s.size) : s.toList.isEmpty = false := by
  rw [Lib.toList_data]
  cases hl : s.data.toList with
  | nil => have h3 : s.size = 0 := by rw [← size_len, hl]; rfl
           omega
  | cons => rfl
theorem data_cons {s : ByteArray} (h : 0 < s.size) : s.data.toList = s[0] :: s.data.toList.drop 1 := by have := drop_cons s 0 h; simpa using this
theorem rest_len {s : ByteArray} (h : 0 < s.size) : (s.data.toList.drop 1).length = s.size - 1 := by rw [List.length_drop, size_len]

set_option maxRecDepth 100000 in
theorem num_any (k : Nat) (s : ByteArray) (w : World) (hk : k ≤ 100) (hs : s.size ≤ 1099511627776) :
    Calls Tryz.prog 100 #[.int .i64 (k : Int), .string s] w fun e w' => e = .returned (.int .i64 (takeS (.num k) s.data.toList)) ∧ Below w.heap.size w w' := by
  have HE : Hid (takeS (.num k) s.data.toList = if s.size < k then -1 else (k : Int)) := Lib.hid (by simp only [takeS]; rw [size_len])
  rw [HE.out]
  by_cases h : s.size < k
  · rw [if_pos h]
    have hb : decide (s.size < k) = true := by simpa using h
    go_enter Tryz.func100, Tryz.ntmps100
    go_wp2_with fail
    go_ret
    exact ⟨rfl, Below.refl _ _⟩
  · rw [if_neg h]
    have hb : decide (s.size < k) = false := by simpa using h
    go_enter Tryz.func100, Tryz.ntmps100
    go_wp2_with fail
    go_ret
    exact ⟨rfl, Below.refl _ _⟩

set_option maxRecDepth 100000 in
theorem ip4_any (s : ByteArray) (w : World) (hs : s.size ≤ 1099511627776) :
    Calls Tryz.prog 104 #[.agg #[], .string s] w fun e w' => e = .returned (.int .i64 (takeS .ip4 s.data.toList)) ∧ Below w.heap.size w w' := by
  have C := Lib.hid (fun w => num_any 4 s w (by omega) hs)
  have HE : Hid (takeS (.num 4) s.data.toList = takeS .ip4 s.data.toList) := Lib.hid rfl
  rw [HE.out] at C
  have hBa := Lib.hid ((Below.refl w.heap.size w).alloc (Nat.le_refl _) (.cells #[] 66))
  go_enter Tryz.func104, Tryz.ntmps104
  go_wp2_with fail
  refine (C.out _).mono ?_
  rintro e w1 ⟨rfl, hB1⟩
  have hB := hBa.out.trans (hB1.mono hBa.out.size)
  clear hB1
  go_wp2_with fail
  go_ret
  exact ⟨rfl, hB⟩

set_option maxRecDepth 100000 in
theorem ip6_any (s : ByteArray) (w : World) (hs : s.size ≤ 1099511627776) :
    Calls Tryz.prog 117 #[.agg #[], .string s] w fun e w' => e = .returned (.int .i64 (takeS .ip6 s.data.toList)) ∧ Below w.heap.size w w' := by
  have C := Lib.hid (fun w => num_any 16 s w (by omega) hs)
  have HE : Hid (takeS (.num 16) s.data.toList = takeS .ip6 s.data.toList) := Lib.hid rfl
  rw [HE.out] at C
  have hBa := Lib.hid ((Below.refl w.heap.size w).alloc (Nat.le_refl _) (.cells #[] 70))
  go_enter Tryz.func117, Tryz.ntmps117
  go_wp2_with fail
  refine (C.out _).mono ?_
  rintro e w1 ⟨rfl, hB1⟩
  have hB := hBa.out.trans (hB1.mono hBa.out.size)
  clear hB1
  go_wp2_with fail
  go_ret
  exact ⟨rfl, hB⟩

theorem textS_at {s : ByteArray} (h : 0 < s.size) : textS s.data.toList = if (s.size : Int) ≤ (s[0].toNat : Int) then -1 else 1 + (s[0].toNat : Int) := by
  have hl := rest_len h
  rw [data_cons h]
  simp only [textS]
  by_cases h2 : (s.size : Int) ≤ (s[0].toNat : Int)
  · rw [if_pos (by omega), if_pos h2]
  · rw [if_neg (by omega), if_neg h2]; omega
set_option maxRecDepth 100000 in
theorem text_any (s : ByteArray) (w : World) (hs : s.size ≤ 1099511627776) :
    Calls Tryz.prog 110 #[.agg #[], .string s] w fun e w' => e = .returned (.int .i64 (textS s.data.toList)) ∧ Below w.heap.size w w' := by
  have hBa := Lib.hid ((Below.refl w.heap.size w).alloc (Nat.le_refl _) (.cells #[] 68))
  by_cases h0 : s.size = 0
  · have he := emp_yes h0
    have HE : Hid (textS s.data.toList = -1) := Lib.hid (by rw [← Lib.toList_data, he]; rfl)
    rw [HE.out]
    clear h0
    go_enter Tryz.func110, Tryz.ntmps110
    go_wp2_with fail
    go_ret
    exact ⟨rfl, hBa.out⟩
  · have h1 : 0 < s.size := by omega
    have he := emp_no h1
    have HT := Lib.hid (textS_at h1)
    rw [HT.out]
    obtain ⟨c, hc⟩ : ∃ c, s[0] = c := ⟨_, rfl⟩
    have hc256 := byte_lt c
    rw [hc]
    clear h0
    by_cases h2 : (s.size : Int) ≤ (c.toNat : Int)
    · rw [if_pos h2]
      go_enter Tryz.func110, Tryz.ntmps110
      go_wp2_with fail
      go_ret
      exact ⟨rfl, hBa.out⟩
    · rw [if_neg h2]
      have h2' : (c.toNat : Int) < (s.size : Int) := by omega
      clear h2
      go_enter Tryz.func110, Tryz.ntmps110
      go_wp2_with fail
      go_ret
      exact ⟨rfl, hBa.out⟩

set_option maxRecDepth 100000 in
theorem salt_any (s : ByteArray) (w : World) (hs : s.size ≤ 1099511627776) :
    Calls Tryz.prog 135 #[.agg #[], .string s] w fun e w' => e = .returned (.int .i64 (takeS .salt s.data.toList)) ∧ Below w.heap.size w w' := by
  have C := Lib.hid (fun w => text_any s w hs)
  have hBa := Lib.hid ((Below.refl w.heap.size w).alloc (Nat.le_refl _) (.cells #[] 75))
  have HE : Hid (takeS .salt s.data.toList = textS s.data.toList) := Lib.hid rfl
  rw [HE.out]
  go_enter Tryz.func135, Tryz.ntmps135
  go_wp2_with fail
  refine (C.out _).mono ?_
  rintro e w1 ⟨rfl, hB1⟩
  have hB := hBa.out.trans (hB1.mono hBa.out.size)
  clear hB1
  go_wp2_with fail
  go_ret
  exact ⟨rfl, hB⟩

set_option maxRecDepth 100000 in
theorem hash_any (s : ByteArray) (w : World) (hs : s.size ≤ 1099511627776) :
    Calls Tryz.prog 138 #[.agg #[], .string s] w fun e w' => e = .returned (.int .i64 (takeS .hash s.data.toList)) ∧ Below w.heap.size w w' := by
  have C := Lib.hid (fun w => text_any s w hs)
  have hBa := Lib.hid ((Below.refl w.heap.size w).alloc (Nat.le_refl _) (.cells #[] 76))
  by_cases h0 : s.size = 0
  · have he := emp_yes h0
    have HE : Hid (takeS .hash s.data.toList = -1) := Lib.hid (by rw [← Lib.toList_data, he]; rfl)
    rw [HE.out]
    clear h0
    go_enter Tryz.func138, Tryz.ntmps138
    go_wp2_with fail
    go_ret
    exact ⟨rfl, hBa.out⟩
  · have h1 : 0 < s.size := by omega
    have he := emp_no h1
    obtain ⟨c, hc⟩ : ∃ c, s[0] = c := ⟨_, rfl⟩
    have hd := data_cons h1
    rw [hc] at hd
    clear h0
    by_cases h2 : c = 0
    · have HE : Hid (takeS .hash s.data.toList = -1) := Lib.hid (by simp only [takeS]; rw [if_pos (.inr (by rw [hd]; exact h2))])
      rw [HE.out]
      have hb : ((c.toNat : Int) == 0) = true := by rw [h2]; rfl
      clear h2 hd
      go_enter Tryz.func138, Tryz.ntmps138
      go_wp2_with fail
      go_ret
      exact ⟨rfl, hBa.out⟩
    · have HE : Hid (takeS .hash s.data.toList = textS s.data.toList) := Lib.hid (by
        simp only [takeS]; rw [if_neg]
        rintro (h | h)
        · rw [h] at hd; simp at hd
        · rw [hd] at h; exact h2 h)
      rw [HE.out]
      have hb : ((c.toNat : Int) == 0) = false := by rw [beq_eq_false_iff_ne]; intro h; exact h2 (UInt8.toNat_inj.1 (by simpa using h))
      clear h2 hd
      go_enter Tryz.func138, Tryz.ntmps138
      go_wp2_with fail
      refine (C.out _).mono ?_
      rintro e w1 ⟨rfl, hB1⟩
      have hB := hBa.out.trans (hB1.mono hBa.out.size)
      clear hB1
      go_wp2_with fail
      go_ret
      exact ⟨rfl, hB⟩

set_option maxRecDepth 100000 in
theorem tail_any (s : ByteArray) (w : World) (hs : s.size ≤ 1099511627776) :
    Calls Tryz.prog 142 #[.agg #[], .string s] w fun e w' => e = .returned (.int .i64 (takeS .tail s.data.toList)) ∧ Below w.heap.size w w' := by
  have hBa := Lib.hid ((Below.refl w.heap.size w).alloc (Nat.le_refl _) (.cells #[] 77))
  have HE : Hid (takeS .tail s.data.toList = (s.size : Int)) := Lib.hid (by simp only [takeS]; rw [size_len])
  rw [HE.out]
  go_enter Tryz.func142, Tryz.ntmps142
  go_wp2_with fail
  go_ret
  exact ⟨rfl, hBa.out⟩

set_option maxRecDepth 100000 in
theorem some_any (s : ByteArray) (w : World) (hs : s.size ≤ 1099511627776) :
    Calls Tryz.prog 122 #[.string s] w fun e w' => e = .returned (.int .i64 (someS s.data.toList)) ∧ w = w' := by
  by_cases h0 : s.size = 0
  · have he := emp_yes h0
    have HE : Hid (someS s.data.toList = -1) := Lib.hid (by rw [← Lib.toList_data, he]; rfl)
    rw [HE.out]
    clear h0
    go_enter Tryz.func122, Tryz.ntmps122
    go_wp2_with fail
    go_ret
    exact ⟨rfl, rfl⟩
  · have h1 : 0 < s.size := by omega
    have he := emp_no h1
    have HE : Hid (someS s.data.toList = (s.size : Int)) := Lib.hid (by unfold someS; rw [if_neg (by intro h; rw [← size_len, h] at h1; simp at h1), size_len])
    rw [HE.out]
    clear h0
    go_enter Tryz.func122, Tryz.ntmps122
    go_wp2_with fail
    go_ret
    exact ⟨rfl, rfl⟩

set_option maxRecDepth 100000 in
theorem hexes_any (s : ByteArray) (w : World) (hs : s.size ≤ 1099511627776) :
    Calls Tryz.prog 121 #[.agg #[], .string s] w fun e w' => e = .returned (.int .i64 (takeS .hexes s.data.toList)) ∧ Below w.heap.size w w' := by
  have C := Lib.hid (fun w => some_any s w hs)
  have hBa := Lib.hid ((Below.refl w.heap.size w).alloc (Nat.le_refl _) (.cells #[] 71))
  have HE : Hid (takeS .hexes s.data.toList = someS s.data.toList) := Lib.hid rfl
  rw [HE.out]
  go_enter Tryz.func121, Tryz.ntmps121
  go_wp2_with fail
  refine (C.out _).mono ?_
  rintro e w1 ⟨rfl, rfl⟩
  go_wp2_with fail
  go_ret
  exact ⟨rfl, hBa.out⟩

set_option maxRecDepth 100000 in
theorem b64_any (s : ByteArray) (w : World) (hs : s.size ≤ 1099511627776) :
    Calls Tryz.prog 128 #[.agg #[], .string s] w fun e w' => e = .returned (.int .i64 (takeS .b64 s.data.toList)) ∧ Below w.heap.size w w' := by
  have C := Lib.hid (fun w => some_any s w hs)
  have hBa := Lib.hid ((Below.refl w.heap.size w).alloc (Nat.le_refl _) (.cells #[] 73))
  have HE : Hid (takeS .b64 s.data.toList = someS s.data.toList) := Lib.hid rfl
  rw [HE.out]
  go_enter Tryz.func128, Tryz.ntmps128
  go_wp2_with fail
  refine (C.out _).mono ?_
  rintro e w1 ⟨rfl, rfl⟩
  go_wp2_with fail
  go_ret
  exact ⟨rfl, hBa.out⟩

theorem kind_at {s : ByteArray} (h : 2 ≤ s.size) : takeS .kind s.data.toList = if valL (s.extract 0 2).data.toList 0 = 0 then -1 else 2 := by
  have hl : 2 ≤ s.data.toList.length := by rw [size_len]; exact h
  have he : (s.extract 0 2).data.toList = s.data.toList.take 2 := by rw [Lib.extract_data]; rfl
  rw [he]
  match hd : s.data.toList, hl with
  | a :: b :: r, _ =>
    have ha := a.toNat_lt
    have hb := b.toNat_lt
    simp only [takeS, List.take_succ_cons, List.take_zero, valL, List.length_cons, List.getD_cons_zero, List.getD_cons_succ]
    by_cases h0 : a = 0 ∧ b = 0
    · rw [if_pos (.inr h0), if_pos (by rw [h0.1, h0.2]; rfl)]
    · have hn : ¬ (r.length + 1 + 1 < 2 ∨ (a = 0 ∧ b = 0)) := by
        rintro (h | h)
        · omega
        · exact h0 h
      rw [if_neg hn, if_neg]
      intro h1
      apply h0
      exact ⟨UInt8.toNat_inj.1 (by simp; omega), UInt8.toNat_inj.1 (by simp; omega)⟩
set_option maxRecDepth 100000 in
theorem kind_any (s : ByteArray) (w : World) (hs : s.size ≤ 1099511627776) :
    Calls Tryz.prog 125 #[.agg #[], .string s] w fun e w' => e = .returned (.int .i64 (takeS .kind s.data.toList)) ∧ Below w.heap.size w w' := by
  have hBa := Lib.hid ((Below.refl w.heap.size w).alloc (Nat.le_refl _) (.cells #[] 72))
  by_cases h2 : 2 ≤ s.size
  · have C := Lib.hid (fun w => small_any (s.extract 0 2) w (by rw [ByteArray.size_extract]; omega))
    have HT := Lib.hid (kind_at h2)
    rw [HT.out]
    obtain ⟨v, hv⟩ : ∃ v, valL (s.extract 0 2).data.toList 0 = v := ⟨_, rfl⟩
    rw [hv] at C ⊢
    have h2i : (2 : Int) ≤ (s.size : Int) := by omega
    have hb2 : decide ((s.size : Int) < 2) = false := by rw [decide_eq_false_iff_not]; omega
    clear hv
    by_cases hv0 : v = 0
    · subst hv0
      rw [if_pos rfl]
      go_enter Tryz.func125, Tryz.ntmps125
      go_wp2_with fail
      refine (C.out _).mono ?_
      rintro e w1 ⟨rfl, rfl⟩
      go_wp2_with fail
      go_ret
      exact ⟨rfl, hBa.out⟩
    · rw [if_neg hv0]
      have hb : ((v : Int) == 0) = false := by rw [beq_eq_false_iff_ne]; omega
      clear hv0
      go_enter Tryz.func125, Tryz.ntmps125
      go_wp2_with fail
      refine (C.out _).mono ?_
      rintro e w1 ⟨rfl, rfl⟩
      go_wp2_with fail
      go_ret
      exact ⟨rfl, hBa.out⟩
  · have HE : Hid (takeS .kind s.data.toList = -1) := Lib.hid (by simp only [takeS]; rw [if_pos (.inl (by rw [size_len]; omega))])
    rw [HE.out]
    have h2i : (s.size : Int) < 2 := by omega
    have hb2 : decide ((s.size : Int) < 2) = true := by rw [decide_eq_true_eq]; omega
    clear h2
    go_enter Tryz.func125, Tryz.ntmps125
    go_wp2_with fail
    go_ret
    exact ⟨rfl, hBa.out⟩
end Go.Proofs.YtjejmgdpjfdhjaaGreatDoor.takes
namespace Go.Proofs.YtjejmgdpjfdhjaaGreatDoor.textsT
open Go.RowKit Go.Proofs.YtjejmgdpjfdhjaaGreatDoor.kit Go.Proofs.YtjejmgdpjfdhjaaGreatDoor.nspec Go.Proofs.YtjejmgdpjfdhjaaGreatDoor.fld Go.Proofs.YtjejmgdpjfdhjaaGreatDoor.takes
set_option linter.unusedVariables false

def textsA (at0 : Nat) (d : Bs) : Int := textsF (d.length + 1) at0 d
theorem texts_end (at0 : Nat) : textsA at0 [] = if at0 = 0 then -1 else (at0 : Int) := rfl
theorem texts_go {at0 : Nat} {c : UInt8} {r : Bs} (h : c.toNat ≤ r.length) : textsA at0 (c :: r) = textsA (at0 + (1 + c.toNat)) (r.drop c.toNat) := by
  unfold textsA
  rw [List.length_cons, textsF, if_neg (by omega)]
  exact texts_fuel _ _ _ _ (by rw [List.length_drop]; omega) (by omega)
theorem texts_bad {at0 : Nat} {c : UInt8} {r : Bs} (h : r.length < c.toNat) : textsA at0 (c :: r) = -1 := by
  unfold textsA
  rw [List.length_cons, textsF, if_pos h]
theorem ext_end (s : ByteArray) (a : Nat) : (s.extract a s.size).data.toList = s.data.toList.drop a := by
  rw [Lib.extract_data]; rw [List.take_of_length_le (by rw [List.length_drop, size_len]; exact Nat.le_refl _)]

set_option maxRecDepth 100000 in
set_option maxHeartbeats 2000000 in
theorem texts_any (s : ByteArray) (w : World) (hs : s.size ≤ 1099511627776) :
    Calls Tryz.prog 114 #[.agg #[], .string s] w fun e w' => e = .returned (.int .i64 (takeS .texts s.data.toList)) ∧ Below w.heap.size w w' := by
  have hBa := Lib.hid ((Below.refl w.heap.size w).alloc (Nat.le_refl _) (.cells #[] 69))
  obtain ⟨R, HR⟩ : ∃ R, Hid (textsA 0 (s.data.toList.drop 0) = R) := ⟨_, Lib.hid rfl⟩
  have HT : Hid (takeS .texts s.data.toList = R) := Lib.hid HR.out
  rw [HT.out]
  go_enter Tryz.func114, Tryz.ntmps114
  go_wp2_with fail
  go_loopg [5, 6] (s.size + 1) (fun gas av _ wr => ∃ a : Nat, av = .int .i64 a ∧ a ≤ s.size ∧ s.size + 1 ≤ a + gas ∧ Hid (textsA a (s.data.toList.drop a) = R) ∧ Below w.heap.size w wr)
  case atStart => exact ⟨0, rfl, by omega, by omega, HR, hBa.out⟩
  case round =>
    obtain ⟨a, rfl, ha, hgas, HS, hB⟩ := hrel
    have HG := Lib.hid hgas; clear hgas
    have HB := Lib.hid hB; clear hB
    by_cases hlt : a < s.size
    · obtain ⟨c, hc⟩ : ∃ c, s[a] = c := ⟨_, rfl⟩
      have hd := drop_cons s a hlt
      rw [hc] at hd
      have hl : (s.data.toList.drop (a + 1)).length = s.size - (a + 1) := by rw [List.length_drop, size_len]
      have CT := Lib.hid (fun w => text_any (s.extract a s.size) w (by rw [ByteArray.size_extract]; omega))
      rw [ext_end, hd] at CT
      have h1 : (a : Int) ≤ (s.size : Int) := by omega
      by_cases h2 : (s.data.toList.drop (a + 1)).length < c.toNat
      · have e1 : textS (c :: s.data.toList.drop (a + 1)) = -1 := by simp only [textS]; rw [if_pos h2]
        have HN : Hid (-1 = R) := Lib.hid (by rw [← HS.out, hd, texts_bad h2])
        rw [e1] at CT
        clear e1 h2 hd hl
        go_wp2_with fail
        refine (CT.out _).mono ?_
        rintro e w1 ⟨rfl, hB1⟩
        have HB1 := Lib.hid (HB.out.trans (hB1.mono HB.out.size)); clear hB1
        go_wp2_with fail
        go_ret
        exact ⟨by rw [← HN.out]; rfl, HB1.out⟩
      · have e1 : textS (c :: s.data.toList.drop (a + 1)) = ((1 + c.toNat : Nat) : Int) := by simp only [textS]; rw [if_neg h2]; simp
        obtain ⟨n, hn⟩ : ∃ n, 1 + c.toNat = n := ⟨_, rfl⟩
        have hns : a + n ≤ s.size := by omega
        have HN : Hid (textsA (a + n) (s.data.toList.drop (a + n)) = R) := Lib.hid (by
          rw [← HS.out, hd, texts_go (by omega), List.drop_drop, hn, show a + 1 + c.toNat = a + n by omega])
        rw [e1, hn] at CT
        have hn1 : 1 ≤ n := by omega
        clear e1 h2 hd hl hn
        go_wp2_with fail
        refine (CT.out _).mono ?_
        rintro e w1 ⟨rfl, hB1⟩
        have HB1 := Lib.hid (HB.out.trans (hB1.mono HB.out.size)); clear hB1
        go_wp2_with fail
        have hgas := HG.out
        go_roundg (gk - 1)
        case rel => exact ⟨a + n, by go_num, by omega, by omega, HN, HB1.out⟩
        case measure => omega
    · have hae : a = s.size := by omega
      subst hae
      have HN : Hid ((if s.size = 0 then -1 else (s.size : Int)) = R) := Lib.hid (by rw [← HS.out, drop_end s s.size (Nat.le_refl _), texts_end])
      clear hlt
      by_cases h0 : s.size = 0
      · have hz : ((s.size : Int) == 0) = true := by rw [beq_iff_eq]; omega
        rw [if_pos h0] at HN
        have H0 := Lib.hid h0; clear h0
        go_wp2_with fail
        go_ret
        exact ⟨by rw [← HN.out]; rfl, HB.out⟩
      · have hz : ((s.size : Int) == 0) = false := by rw [beq_eq_false_iff_ne]; omega
        rw [if_neg h0] at HN
        clear h0
        go_wp2_with fail
        go_ret
        exact ⟨by rw [← HN.out]; rfl, HB.out⟩
end Go.Proofs.YtjejmgdpjfdhjaaGreatDoor.textsT
