/- The law DataOrder32: walk. -/
import Derived.Test.YtjflojefpaffeaaOrder32P
import Derived.Test.YtjflojefpaffeaaFrom32
import Derived.WalkLawsBesides
namespace Go.Proofs.Ytjflojefpaffeaa.dorder32
open Go.RowKit Go.Proofs.Ytjflojefpaffeaa.kit Go.Proofs.Ytjflojefpaffeaa.back Go.Proofs.Ytjflojefpaffeaa.to32 Go.Proofs.Ytjflojefpaffeaa.from32 Go.Proofs.Ytjflojefpaffeaa.order32

set_option maxRecDepth 100000 in
set_option maxHeartbeats 2000000 in
theorem law (a b : ByteArray) (w : World) (ha : a.size ≤ 1048576) (hb : b.size ≤ 1048576) :
    Calls Try.prog 6 #[.string a, .string b] w fun e w' => e = .returned (.bool true) ∧ Below w.heap.size w w' := by
  have HF := Lib.hid (nto32_any ⟨#[102, 111, 111, 98, 97, 114]⟩ w (by decide))
  rw [show (⟨#[102, 111, 111, 98, 97, 114]⟩ : ByteArray).data.toList = [102, 111, 111, 98, 97, 114] from rfl, foobar] at HF
  obtain ⟨TA, hTA⟩ : ∃ T : ByteArray, (⟨(to32S a.data.toList).toArray⟩ : ByteArray) = T := ⟨_, rfl⟩
  obtain ⟨TB, hTB⟩ : ∃ T : ByteArray, (⟨(to32S b.data.toList).toArray⟩ : ByteArray) = T := ⟨_, rfl⟩
  have eA : TA.data.toList = to32S a.data.toList := by rw [← hTA]
  have eB : TB.data.toList = to32S b.data.toList := by rw [← hTB]
  have hTAs : TA.size ≤ 8388608 := by
    have h1 := bits.enc_len 5 set32 (by omega) (bits.bitsL a.data.toList)
    rw [bits.bitsL_len, size_len] at h1
    rw [← size_len, eA]
    unfold to32S
    omega
  have HR : Hid (from32S TA.data.toList = some a.data.toList) := Lib.hid (by rw [eA]; exact back_to _)
  have HA := Lib.hid hTA; clear hTA
  have HB := Lib.hid hTB; clear hTB
  have HEA := Lib.hid eA; clear eA
  have HEB := Lib.hid eB; clear eB
  have hss : (a.toList == a.toList) = true := by simp
  by_cases hl : a.size = b.size
  · have hL := order_to a.data.toList b.data.toList (by rw [size_len, size_len, hl])
    have hE := eq_to a.data.toList b.data.toList
    rw [← HEA.out, ← HEB.out] at hL hE
    rw [← Lib.toList_data, ← Lib.toList_data, ← Lib.toList_data, ← Lib.toList_data] at hL hE
    have hlb : ((a.size : Int) != (b.size : Int)) = false := by simp [hl]
    have HL := Lib.hid hl; clear hl
    go_enter Try.func6, Try.ntmps6
    go_wp2_with fail
    refine HF.out.mono ?_
    rintro e w1 ⟨rfl, hB1⟩
    have hz1 := hB1.size
    go_wp2_with fail
    refine (nto32_any a _ (by omega)).mono ?_
    rintro e w2 ⟨rfl, hB2⟩
    rw [HA.out]
    have hBB := hB1.trans (hB2.mono hz1)
    have hz2 := hBB.size
    go_wp2_with fail
    refine (nfrom32_any TA _ (by omega)).mono ?_
    rintro e w3 ⟨rfl, hB3⟩
    rw [HR.out]
    unfold two
    have hBC := hBB.trans (hB3.mono hz2)
    have hz3 := hBC.size
    go_wp2_with fail
    refine (nto32_any a _ (by omega)).mono ?_
    rintro e w4 ⟨rfl, hB4⟩
    rw [HA.out]
    have hC4 := hBC.trans (hB4.mono hz3)
    have hz4 := hC4.size
    go_wp2_with fail
    refine (nto32_any b _ (by omega)).mono ?_
    rintro e w5 ⟨rfl, hB5⟩
    rw [HB.out]
    have hC5 := hC4.trans (hB5.mono hz4)
    have hz5 := hC5.size
    go_wp2_with fail
    refine (nto32_any a _ (by omega)).mono ?_
    rintro e w6 ⟨rfl, hB6⟩
    rw [HA.out]
    have hC6 := hC5.trans (hB6.mono hz5)
    have hz6 := hC6.size
    go_wp2_with fail
    refine (nto32_any b _ (by omega)).mono ?_
    rintro e w7 ⟨rfl, hB7⟩
    rw [HB.out]
    have hC7 := hC6.trans (hB7.mono hz6)
    have hz7 := hC7.size
    go_wp2
    go_ret
    exact ⟨rfl, hC7⟩
  · have hlb : ((a.size : Int) != (b.size : Int)) = true := by rw [bne_iff_ne]; omega
    go_enter Try.func6, Try.ntmps6
    go_wp2_with fail
    refine HF.out.mono ?_
    rintro e w1 ⟨rfl, hB1⟩
    have hz1 := hB1.size
    go_wp2_with fail
    refine (nto32_any a _ (by omega)).mono ?_
    rintro e w2 ⟨rfl, hB2⟩
    rw [HA.out]
    have hBB := hB1.trans (hB2.mono hz1)
    have hz2 := hBB.size
    go_wp2_with fail
    refine (nfrom32_any TA _ (by omega)).mono ?_
    rintro e w3 ⟨rfl, hB3⟩
    rw [HR.out]
    unfold two
    have hBC := hBB.trans (hB3.mono hz2)
    have hz3 := hBC.size
    go_wp2
    go_ret
    exact ⟨rfl, hBC⟩
end Go.Proofs.Ytjflojefpaffeaa.dorder32
