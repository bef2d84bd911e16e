/- data.From32: walk. -/
import Derived.Test.YtjflojefpaffeaaBack
import Derived.Test.YtjflojefpaffeaaTo32
namespace Go.Proofs.Ytjflojefpaffeaa.from32
open Go.RowKit Go.Proofs.Ytjflojefpaffeaa.kit Go.Proofs.Ytjflojefpaffeaa.bits Go.Proofs.Ytjflojefpaffeaa.back Go.Proofs.Ytjflojefpaffeaa.bld Go.Proofs.Ytjflojefpaffeaa.to32

theorem or5 {x y : Int} (hx₀ : 0 ≤ x) (hx : x % 32 = 0) (hx₁ : x < 2147483648) (h₀ : 0 ≤ y) (h₁ : y < 32) : bits .or .i64 x y = x + y :=
  bits_join .i64 31 (by decide) wraps31 5 x y hx₀ hx hx₁ h₀ h₁ (by omega)
theorem val_case (c : UInt8) : (∃ v : Nat, val32 c = some v ∧ v < 32 ∧ ((48 ≤ c.toNat ∧ c.toNat ≤ 57 ∧ v + 48 = c.toNat) ∨ (97 ≤ c.toNat ∧ c.toNat ≤ 118 ∧ v + 87 = c.toNat) ∨ (65 ≤ c.toNat ∧ c.toNat ≤ 86 ∧ v + 55 = c.toNat))) ∨
    (val32 c = none ∧ (c.toNat < 48 ∨ (57 < c.toNat ∧ c.toNat < 65) ∨ (86 < c.toNat ∧ c.toNat < 97) ∨ 118 < c.toNat)) := by
  by_cases h1 : 48 ≤ c.toNat ∧ c.toNat ≤ 57
  · exact .inl ⟨c.toNat - 48, by unfold val32; rw [if_pos h1], by omega, .inl ⟨h1.1, h1.2, by omega⟩⟩
  · by_cases h2 : 97 ≤ c.toNat ∧ c.toNat ≤ 118
    · exact .inl ⟨c.toNat - 87, by unfold val32; rw [if_neg h1, if_pos h2], by omega, .inr (.inl ⟨h2.1, h2.2, by omega⟩)⟩
    · by_cases h3 : 65 ≤ c.toNat ∧ c.toNat ≤ 86
      · exact .inl ⟨c.toNat - 55, by unfold val32; rw [if_neg h1, if_neg h2, if_pos h3], by omega, .inr (.inr ⟨h3.1, h3.2, by omega⟩)⟩
      · exact .inr ⟨by unfold val32; rw [if_neg h1, if_neg h2, if_neg h3], by omega⟩

set_option maxRecDepth 100000 in
set_option maxHeartbeats 4000000 in
theorem nfrom32_any (s : ByteArray) (w : World) (hs : s.size ≤ 1099511627776) :
    Calls Try.prog 24 #[.string s] w fun e w' => e = two (from32S s.data.toList) ∧ Below w.heap.size w w' := by
  obtain ⟨R, HR⟩ : ∃ R, Hid (from32S s.data.toList = R) := ⟨_, Lib.hid rfl⟩
  rw [HR.out]
  have hfb := Lib.fresh_isBuilder 75 5 w
  have hBa := (Below.refl w.heap.size w).alloc (Nat.le_refl _) (.cells #[.pointer none, .slice none 0 0] 75)
  go_enter Try.func24, Try.ntmps24
  go_wp2
  go_loopg [5, 6, 12] (s.size + 1) (fun gas hv bv kv wr => ∃ (k h b : Nat) (A : List UInt8), hv = .int .i64 h ∧ bv = .int .i64 b ∧ kv = .int .i64 k ∧ h < 4096 ∧ b < 8 ∧ k ≤ s.size ∧ k + gas = s.size + 1 ∧ A.length ≤ k ∧ Hid (backS 5 5 val32 A (tob h b) (s.data.toList.drop k) = R) ∧ Bld w.heap.size w.heap.size A wr ∧ Below w.heap.size w wr)
  case atStart => exact ⟨0, 0, 0, [], rfl, rfl, rfl, by omega, by omega, by omega, by omega, by simp, HR, hfb, hBa⟩
  case round =>
    clear hfb hBa
    obtain ⟨k, h, b, A, rfl, rfl, rfl, hh, hb, hk, hkg, hAk, HW, hA, hB⟩ := hrel
    have HK := Lib.hid hkg; clear hkg
    have hsz := hB.size
    by_cases hlt : k < s.size
    · have hc256 := byte_lt s[k]
      rcases val_case s[k] with ⟨v, hv, hv32, hcc⟩ | ⟨hv, hcc⟩
      · obtain ⟨H, hH⟩ : ∃ H : Nat, (h * 32 + v) % 4096 = H := ⟨_, rfl⟩
        have hH4 : H < 4096 := by omega
        have HSTEP := Lib.hid (back_some HW.out (drop_cons s k hlt) hv hv32 (by omega) hH)
        have HOR := Lib.hid (or5 (x := (h : Int) * 32) (y := (v : Int)) (by omega) (by omega) (by omega) (by omega) (by omega))
        have HAND : Hid (bits .and .i64 ((h : Int) * 32 + (v : Int)) 4095 = (H : Int)) := Lib.hid (by
          rw [and4095 (by omega) (by omega)]; omega)
        clear hH hv
        have hor := congrArg (Value.int .i64) HOR.out
        have hand := congrArg (Value.int .i64) HAND.out
        by_cases h8 : 3 ≤ b
        · obtain ⟨q, hq⟩ : ∃ q, b = q + 3 := ⟨b - 3, by omega⟩
          have hq8 : (q : Int) < 8 := by omega
          have hsub : Value.int .i64 ((b : Int) + 5 - 8) = Value.int .i64 (q : Int) := by congr 1; omega
          have hbb : (8 : Int) ≤ (b : Int) + 5 := by omega
          have hZb : ((UInt8.ofNat (H / 2 ^ q)).toNat : Int) = (H : Int) / 2 ^ q % 256 := by simp [UInt8.toNat_ofNat']
          have HSB : Hid (backS 5 5 val32 (A ++ [UInt8.ofNat (H / 2 ^ q)]) (tob H q) (s.data.toList.drop (k + 1)) = R) := Lib.hid (by
            have h1 := HSTEP.out
            rw [hq] at h1
            exact back_byte h1)
          have hwb := wb w.heap.size w.heap.size A (UInt8.ofNat (H / 2 ^ q)) wr hA (by omega) hsz
          rw [hZb] at hwb
          have HWB := Lib.hid hwb
          clear hwb hq hZb
          rcases hcc with ⟨hc1, hc2, hc3⟩ | ⟨hc1, hc2, hc3⟩ | ⟨hc1, hc2, hc3⟩
          · have hc4 : Value.int .i64 ((s[k].toNat : Int) - 48) = Value.int .i64 (v : Int) := by congr 1; omega
            have hc1 : (48 : Int) ≤ (s[k].toNat : Int) := by omega
            have hc2 : (s[k].toNat : Int) ≤ 57 := by omega
            clear hc3
            go_wp2_with fail
            refine HWB.out.mono ?_
            rintro e v1 ⟨rfl, hb1, hE1⟩
            clear hor hand hc4
            go_wp2
            have hkg := HK.out
            go_roundg (gk - 1)
            case rel => exact ⟨k + 1, H, q, _, rfl, (by first | rfl | exact hsub), by go_num, hH4, by omega, by omega, by omega, by simp; omega, HSB, hb1, hB.trans hE1⟩
            case measure => omega
          · have hc4 : Value.int .i64 ((s[k].toNat : Int) - 97 + 10) = Value.int .i64 (v : Int) := by congr 1; omega
            have hc1 : (97 : Int) ≤ (s[k].toNat : Int) := by omega
            have hc2 : (s[k].toNat : Int) ≤ 118 := by omega
            clear hc3
            go_wp2_with fail
            refine HWB.out.mono ?_
            rintro e v1 ⟨rfl, hb1, hE1⟩
            clear hor hand hc4
            go_wp2
            have hkg := HK.out
            go_roundg (gk - 1)
            case rel => exact ⟨k + 1, H, q, _, rfl, (by first | rfl | exact hsub), by go_num, hH4, by omega, by omega, by omega, by simp; omega, HSB, hb1, hB.trans hE1⟩
            case measure => omega
          · have hc4 : Value.int .i64 ((s[k].toNat : Int) - 65 + 10) = Value.int .i64 (v : Int) := by congr 1; omega
            have hc1 : (65 : Int) ≤ (s[k].toNat : Int) := by omega
            have hc2 : (s[k].toNat : Int) ≤ 86 := by omega
            clear hc3
            go_wp2_with fail
            refine HWB.out.mono ?_
            rintro e v1 ⟨rfl, hb1, hE1⟩
            clear hor hand hc4
            go_wp2
            have hkg := HK.out
            go_roundg (gk - 1)
            case rel => exact ⟨k + 1, H, q, _, rfl, (by first | rfl | exact hsub), by go_num, hH4, by omega, by omega, by omega, by simp; omega, HSB, hb1, hB.trans hE1⟩
            case measure => omega
        · have hbb : (b : Int) + 5 < 8 := by omega
          rcases hcc with ⟨hc1, hc2, hc3⟩ | ⟨hc1, hc2, hc3⟩ | ⟨hc1, hc2, hc3⟩
          · have hc4 : Value.int .i64 ((s[k].toNat : Int) - 48) = Value.int .i64 (v : Int) := by congr 1; omega
            have hc1 : (48 : Int) ≤ (s[k].toNat : Int) := by omega
            have hc2 : (s[k].toNat : Int) ≤ 57 := by omega
            clear hc3
            go_wp2
            clear hor hand hc4
            have hkg := HK.out
            go_roundg (gk - 1)
            case rel => exact ⟨k + 1, H, b + 5, A, rfl, by go_num, by go_num, hH4, by omega, by omega, by omega, by omega, HSTEP, hA, hB⟩
            case measure => omega
          · have hc4 : Value.int .i64 ((s[k].toNat : Int) - 97 + 10) = Value.int .i64 (v : Int) := by congr 1; omega
            have hc1 : (97 : Int) ≤ (s[k].toNat : Int) := by omega
            have hc2 : (s[k].toNat : Int) ≤ 118 := by omega
            clear hc3
            go_wp2
            clear hor hand hc4
            have hkg := HK.out
            go_roundg (gk - 1)
            case rel => exact ⟨k + 1, H, b + 5, A, rfl, by go_num, by go_num, hH4, by omega, by omega, by omega, by omega, HSTEP, hA, hB⟩
            case measure => omega
          · have hc4 : Value.int .i64 ((s[k].toNat : Int) - 65 + 10) = Value.int .i64 (v : Int) := by congr 1; omega
            have hc1 : (65 : Int) ≤ (s[k].toNat : Int) := by omega
            have hc2 : (s[k].toNat : Int) ≤ 86 := by omega
            clear hc3
            go_wp2
            clear hor hand hc4
            have hkg := HK.out
            go_roundg (gk - 1)
            case rel => exact ⟨k + 1, H, b + 5, A, rfl, by go_num, by go_num, hH4, by omega, by omega, by omega, by omega, HSTEP, hA, hB⟩
            case measure => omega
      · have HN := Lib.hid (back_none HW.out (drop_cons s k hlt) hv)
        clear hv
        have hc0 : (0 : Int) ≤ (s[k].toNat : Int) := by omega
        rcases hcc with hc | ⟨hc, hc'⟩ | ⟨hc, hc'⟩ | hc
        · have hc1 : (s[k].toNat : Int) < 48 := by omega
          go_wp2
          go_ret2
          exact ⟨by rw [HN.out]; rfl, hB⟩
        · have hc1 : (57 : Int) < (s[k].toNat : Int) := by omega
          have hc2 : (s[k].toNat : Int) < 65 := by omega
          go_wp2
          go_ret2
          exact ⟨by rw [HN.out]; rfl, hB⟩
        · have hc1 : (86 : Int) < (s[k].toNat : Int) := by omega
          have hc2 : (s[k].toNat : Int) < 97 := by omega
          go_wp2
          go_ret2
          exact ⟨by rw [HN.out]; rfl, hB⟩
        · have hc1 : (118 : Int) < (s[k].toNat : Int) := by omega
          go_wp2
          go_ret2
          exact ⟨by rw [HN.out]; rfl, hB⟩
    · have hkk : s.data.toList.drop k = [] := drop_end s k (by omega)
      have HN := HW.out
      rw [hkk] at HN
      have HE := Lib.hid (back_end HN (by omega))
      clear HN hkk
      by_cases hb5 : 5 ≤ b
      · have HRR : Hid (R = none) := Lib.hid (by rw [HE.out, if_neg (by omega)])
        have hb5i : (5 : Int) ≤ (b : Int) := by omega
        have hd : decide (5 ≤ b) = true := by simp; omega
        go_wp2
        go_ret2
        exact ⟨by rw [HRR.out]; rfl, hB⟩
      · have hb5i : (b : Int) < 5 := by omega
        have hd : decide (5 ≤ b) = false := by simp; omega
        obtain ⟨z, hz⟩ : ∃ z : Nat, h % 2 ^ b = z := ⟨_, rfl⟩
        have hv : Value.int .i64 (bits .and .i64 (h : Int) (wrap64 (wrap64 (2 ^ b) - 1))) = Value.int .i64 (z : Int) := by
          obtain ⟨Z, hZ⟩ : ∃ Z : Nat, 2 ^ b = Z := ⟨_, rfl⟩
          have hp : 1 ≤ Z := by rw [← hZ]; exact Nat.two_pow_pos b
          have hl : Z ≤ 16 := by rw [← hZ]; exact Nat.pow_le_pow_right (n := 2) (by omega) (show b ≤ 4 by omega)
          have e : (2 : Int) ^ b = (Z : Int) := by rw [← hZ]; simp
          have em := bits_mask .i64 31 (by decide) wraps31 b (by omega) (h : Int) (by omega) (by omega)
          rw [e] at em ⊢
          rw [IntWalk.wrap64_in (Z : Int) (by omega), IntWalk.wrap64_in ((Z : Int) - 1) (by omega), em, ← hz, hZ]
          simp
        have HE2 := HE.out
        rw [hz] at HE2
        have HE3 := Lib.hid HE2
        clear HE2 hz
        by_cases hz0 : z = 0
        · have HRR : Hid (R = some A) := Lib.hid (by rw [HE3.out, if_pos ⟨hz0, by omega⟩])
          subst hz0
          have hd0 : ((((0 : Nat) : Int)) != 0) = false := rfl
          go_wp2_with fail
          refine (Try.Builder_String_any _ _ A _ hA (by omega)).mono ?_
          rintro e v2 ⟨rfl, hE2⟩
          go_wp2
          go_ret2
          exact ⟨by rw [HRR.out]; rfl, hB.trans hE2⟩
        · have HRR : Hid (R = none) := Lib.hid (by rw [HE3.out, if_neg (by omega)])
          have hd0 : ((z : Int) != 0) = true := by rw [bne_iff_ne]; omega
          go_wp2
          go_ret2
          exact ⟨by rw [HRR.out]; rfl, hB⟩
end Go.Proofs.Ytjflojefpaffeaa.from32
