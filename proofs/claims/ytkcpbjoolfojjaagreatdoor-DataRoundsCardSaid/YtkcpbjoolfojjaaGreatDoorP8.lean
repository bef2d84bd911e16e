/- data.To32: walk. -/
import Derived.Test.YtkcpbjoolfojjaaGreatDoorP2
import Derived.Test.YtkcpbjoolfojjaaGreatDoorP7
import Derived.Laws.BitsLemmas
namespace Go.Proofs.YtkcpbjoolfojjaaGreatDoor.to32
open Go.RowKit Go.Proofs.YtkcpbjoolfojjaaGreatDoor.kit Go.Proofs.YtkcpbjoolfojjaaGreatDoor.bits Go.Proofs.YtkcpbjoolfojjaaGreatDoor.bld

def set32 : List UInt8 := [48, 49, 50, 51, 52, 53, 54, 55, 56, 57, 97, 98, 99, 100, 101, 102, 103, 104, 105, 106, 107, 108, 109, 110, 111, 112, 113, 114, 115, 116, 117, 118]
def to32S (d : List UInt8) : List UInt8 := enc 5 set32 (bitsL d)

theorem wraps31 (n : Int) (h₀ : 0 ≤ n) (h₁ : n < 2 ^ 31) : IntKind.i64.wrap n = n := by rw [IntKind.wrap_i64]; omega
theorem or8 {x y : Int} (hx₀ : 0 ≤ x) (hx : x % 256 = 0) (hx₁ : x < 2147483648) (h₀ : 0 ≤ y) (h₁ : y < 256) : bits .or .i64 x y = x + y :=
  bits_join .i64 31 (by decide) wraps31 8 x y hx₀ hx hx₁ h₀ h₁ (by omega)
theorem and4095 {x : Int} (h₀ : 0 ≤ x) (h₁ : x < 2147483648) : bits .and .i64 x 4095 = x % 4096 := bits_mask .i64 31 (by decide) wraps31 12 (by decide) x h₀ h₁
theorem and31 {x : Int} (h₀ : 0 ≤ x) (h₁ : x < 2147483648) : bits .and .i64 x 31 = x % 32 := bits_mask .i64 31 (by decide) wraps31 5 (by decide) x h₀ h₁

theorem idx32 (v : Nat) (h : v < 32) : Value.int .u8 (((⟨#[48, 49, 50, 51, 52, 53, 54, 55, 56, 57, 97, 98, 99, 100, 101, 102, 103, 104, 105, 106, 107, 108, 109, 110, 111, 112, 113, 114, 115, 116, 117, 118]⟩ : ByteArray)[v]'h).toNat : Int) = Value.int .u8 ((set32.getD v 0).toNat : Int) := by
  rw [← getD_at]; rfl

set_option maxRecDepth 100000 in
set_option maxHeartbeats 2000000 in
theorem nto32_any (s : ByteArray) (w : World) (hs : s.size ≤ 1099511627776) :
    Calls Tryz.prog 211 #[.string s] w fun e w' => e = .returned (.string ⟨(to32S s.data.toList).toArray⟩) ∧ Below w.heap.size w w' := by
  obtain ⟨R, HR⟩ : ∃ R, Hid (to32S s.data.toList = R) := ⟨_, Lib.hid rfl⟩
  have hRl : R.length ≤ 8 * s.size := by
    rw [← HR.out]
    have h1 := enc_len 5 set32 (by omega) (bitsL s.data.toList)
    rw [bitsL_len, size_len] at h1
    exact h1
  rw [HR.out]
  have hfb := Lib.fresh_isBuilder 52 5 w
  have hBa := (Below.refl w.heap.size w).alloc (Nat.le_refl _) (.cells #[.pointer none, .slice none 0 0] 52)
  go_enter Tryz.func211, Tryz.ntmps211
  go_wp2
  go_loopg [4, 5, 9] (s.size + 1) (fun gas hv bv kv wr => ∃ (k h b : Nat) (A : List UInt8), hv = .int .i64 h ∧ bv = .int .i64 b ∧ kv = .int .i64 k ∧ h < 4096 ∧ b < 5 ∧ k ≤ s.size ∧ k + gas = s.size + 1 ∧ Hid (A ++ enc 5 set32 (tob h b ++ bitsL (s.data.toList.drop k)) = R) ∧ Bld w.heap.size w.heap.size A wr ∧ Below w.heap.size w wr)
  case atStart => exact ⟨0, 0, 0, [], rfl, rfl, rfl, by omega, by omega, by omega, by omega, HR, hfb, hBa⟩
  case round =>
    obtain ⟨k, h, b, A, rfl, rfl, rfl, hh, hb, hk, hkg, HW, hA, hB⟩ := hrel
    obtain ⟨gk', hgk'⟩ : ∃ g, g = gk := ⟨_, rfl⟩
    rw [← hgk'] at hkg
    have HK := Lib.hid hkg; clear hkg
    by_cases hlt : k < s.size
    · have hc256 := byte_lt s[k]
      have HOR := Lib.hid (or8 (x := (h : Int) * 256) (y := (s[k].toNat : Int)) (by omega) (by omega) (by omega) (by omega) hc256)
      obtain ⟨H, hH⟩ : ∃ H : Nat, (h * 256 + s[k].toNat) % 4096 = H := ⟨_, rfl⟩
      have hH4 : H < 4096 := by omega
      have HSTEP := Lib.hid (to_step HW.out (drop_cons s k hlt) (by omega) hH)
      have HAND : Hid (bits .and .i64 ((h : Int) * 256 + (s[k].toNat : Int)) 4095 = (H : Int)) := Lib.hid (by
        rw [and4095 (x := (h : Int) * 256 + (s[k].toNat : Int)) (by omega) (by omega)]; omega)
      have HW64 := Lib.hid (IntWalk.wrap64_in (s[k].toNat : Int) (by omega))
      clear hH
      have hor := congrArg (Value.int .i64) HOR.out
      have hand := congrArg (Value.int .i64) HAND.out
      have hw64 := congrArg (Value.int .i64) HW64.out
      go_wp2
      clear hor hand hw64
      go_loopg [5] 3 (fun gas bv wq => ∃ (b : Nat) (A : List UInt8), bv = .int .i64 b ∧ b < 13 ∧ b < 5 * gas ∧ Hid (A ++ enc 5 set32 (tob H b ++ bitsL (s.data.toList.drop (k + 1))) = R) ∧ Bld w.heap.size w.heap.size A wq ∧ Below w.heap.size w wq)
      case atStart => exact ⟨b + 8, A, by go_num, by omega, by omega, HSTEP, hA, hB⟩
      case round =>
        clear HSTEP hA hB HW
        obtain ⟨b', A', rfl, hb', hbg, HV, hA', hB'⟩ := hrel
        by_cases h5 : 5 ≤ b'
        · obtain ⟨q, hq⟩ : ∃ q, b' = q + 5 := ⟨b' - 5, by omega⟩
          have HQ := Lib.hid hq
          have h5i : (5 : Int) ≤ (b' : Int) := by omega
          have hq8 : (q : Int) < 8 := by omega
          obtain ⟨v, hv⟩ : ∃ v : Nat, H / 2 ^ q % 32 = v := ⟨_, rfl⟩
          have hv32 : v < 32 := by omega
          have HENC : Hid ((A' ++ [set32.getD v 0]) ++ enc 5 set32 (tob H q ++ bitsL (s.data.toList.drop (k + 1))) = R) := Lib.hid (by
            have h1 := HV.out
            rw [hq] at h1
            have h2 := to_letter (H := H) (q := q) h1 (by omega)
            rw [show (2 : Nat) ^ 5 = 32 from rfl, hv] at h2
            exact h2)
          have hAl : A'.length ≤ R.length := by have h1 := HV.out; rw [← h1]; simp
          have HWB := Lib.hid (wb w.heap.size w.heap.size A' (set32.getD v 0) wr hA' (by omega) (by have := hB'.size; omega))
          have hsub : Value.int .i64 ((b' : Int) - 5) = Value.int .i64 (q : Int) := by congr 1; omega
          have HAN2 : Hid (bits .and .i64 ((H : Int) / 2 ^ q) 31 = (v : Int)) := Lib.hid (by
            obtain ⟨Z, hZ⟩ : ∃ Z : Nat, H / 2 ^ q = Z := ⟨_, rfl⟩
            have e1 : (H : Int) / 2 ^ q = (Z : Int) := by rw [← hZ]; simp
            have e2 : Z ≤ H := by rw [← hZ]; exact Nat.div_le_self _ _
            rw [hZ] at hv
            rw [e1, and31 (by omega) (by omega)]; omega)
          have hx := idx32 v hv32
          have hand2 := congrArg (Value.int .i64) HAN2.out
          clear hq hv
          go_wp2_with fail
          refine HWB.out.mono ?_
          rintro e v1 ⟨rfl, hb1, hE1⟩
          clear hand2 hx
          go_wp2
          go_roundg (gk - 1)
          case rel => exact ⟨q, _, rfl, by omega, by have := HQ.out; omega, HENC, hb1, hB'.trans hE1⟩
          case measure => omega
        · have hd5 : decide (5 ≤ (b' : Int)) = false := by simp; omega
          go_wp2
          have hkg := HK.out
          go_roundg (gk' - 1)
          case rel => exact ⟨k + 1, H, b', A', rfl, rfl, by go_num, hH4, by omega, by omega, by omega, HV, hA', hB'⟩
          case measure => omega
    · have hkk : s.data.toList.drop k = [] := drop_end s k (by omega)
      have HN := HW.out
      rw [hkk] at HN
      have hAl : A.length ≤ R.length := by rw [← HN]; simp
      by_cases hb0 : 0 < b
      · obtain ⟨d, hd⟩ : ∃ d, 5 - b = d := ⟨_, rfl⟩
        obtain ⟨v, hv⟩ : ∃ v : Nat, h * 2 ^ d % 32 = v := ⟨_, rfl⟩
        have hv32 : v < 32 := by omega
        have HL := to_last HN hb0 (by omega)
        rw [hd, show (2 : Nat) ^ 5 = 32 from rfl, hv] at HL
        have HLH := Lib.hid HL
        have HWB := Lib.hid (wb w.heap.size w.heap.size A (set32.getD v 0) wr hA (by omega) (by have := hB.size; omega))
        have hx := idx32 v hv32
        have hd5 : d < 5 := by omega
        have hsub : Value.int .i64 (5 - (b : Int)) = Value.int .i64 (d : Int) := by congr 1; omega
        have HAN : Hid (bits .and .i64 (wrap64 ((h : Int) * 2 ^ d)) 31 = (v : Int)) := Lib.hid (by
          obtain ⟨Z, hZ⟩ : ∃ Z : Nat, h * 2 ^ d = Z := ⟨_, rfl⟩
          have e1 : (h : Int) * 2 ^ d = (Z : Int) := by rw [← hZ]; simp
          have e2 : Z ≤ 4096 * 16 := by
            rw [← hZ]
            exact Nat.mul_le_mul (by omega) (show 2 ^ d ≤ 2 ^ 4 from Nat.pow_le_pow_right (by omega) (by omega))
          rw [hZ] at hv
          rw [e1, IntWalk.wrap64_in _ (by omega), and31 (by omega) (by omega)]; omega)
        have hand := congrArg (Value.int .i64) HAN.out
        clear HL HN hkk hd hv
        go_wp2_with fail
        refine HWB.out.mono ?_
        rintro e v1 ⟨rfl, hb1, hE1⟩
        rw [HLH.out] at hb1
        clear hand hx hsub
        have hv1 := hE1.size
        have hv0 := hB.size
        go_wp2_with fail
        refine (Tryz.Builder_String_any _ _ R _ hb1 (by omega)).mono ?_
        rintro e v2 ⟨rfl, hE2⟩
        go_wp2
        go_ret
        exact ⟨rfl, (hB.trans hE1).trans hE2⟩
      · have hb00 : b = 0 := by omega
        subst hb00
        have HRR := Lib.hid (to_end HN)
        clear HN hkk
        rw [HRR.out] at hA
        have hv0 := hB.size
        go_wp2_with fail
        refine (Tryz.Builder_String_any _ _ R _ hA (by omega)).mono ?_
        rintro e v2 ⟨rfl, hE2⟩
        go_wp2
        go_ret
        exact ⟨rfl, hB.trans hE2⟩
end Go.Proofs.YtkcpbjoolfojjaaGreatDoor.to32
