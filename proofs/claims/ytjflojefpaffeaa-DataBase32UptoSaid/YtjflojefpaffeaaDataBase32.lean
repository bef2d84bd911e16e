/- The law DataBase32: walk. -/
import Derived.Test.YtjflojefpaffeaaWhole
import Derived.Test.YtjflojefpaffeaaFrom32
namespace Go.Proofs.Ytjflojefpaffeaa.base32
open Go.RowKit Go.Proofs.Ytjflojefpaffeaa.kit Go.Proofs.Ytjflojefpaffeaa.back Go.Proofs.Ytjflojefpaffeaa.to32 Go.Proofs.Ytjflojefpaffeaa.from32 Go.Proofs.Ytjflojefpaffeaa.coded Go.Proofs.Ytjflojefpaffeaa.whole

set_option maxRecDepth 100000 in
set_option maxHeartbeats 1000000 in
theorem law (d text : ByteArray) (w : World) (hd : d.size ≤ 1048576) (ht : text.size ≤ 1048576) :
    Calls Try.prog 7 #[.string d, .string text] w fun e w' => e = .returned (.bool true) ∧ Below w.heap.size w w' := by
  obtain ⟨T, hT⟩ : ∃ T : ByteArray, (⟨(to32S d.data.toList).toArray⟩ : ByteArray) = T := ⟨_, rfl⟩
  have HT := Lib.hid hT; clear hT
  obtain ⟨R, hR⟩ : ∃ R, from32S text.data.toList = R := ⟨_, rfl⟩
  have HR := Lib.hid hR; clear hR
  go_enter Try.func7, Try.ntmps7
  go_wp2_with fail
  refine (nfrom32_any text _ (by omega)).mono ?_
  rintro e w1 ⟨rfl, hB1⟩
  rw [HR.out]
  have hz1 := hB1.size
  cases R with
  | none =>
    unfold two
    go_wp2_with fail
    refine (rfrom32_any text _ (by omega)).mono ?_
    rintro e w2 ⟨rfl, hB2⟩
    rw [HR.out]
    have hBB := hB1.trans (hB2.mono hz1)
    have hz2 := hBB.size
    unfold two
    go_wp2_with fail
    refine (nto32_any d _ (by omega)).mono ?_
    rintro e w3 ⟨rfl, hB3⟩
    rw [HT.out]
    have hBC := hBB.trans (hB3.mono hz2)
    have hz3 := hBC.size
    go_wp2_with fail
    refine (rto32_any d _ (by omega)).mono ?_
    rintro e w4 ⟨rfl, hB4⟩
    rw [HT.out]
    go_wp2
    go_ret
    exact ⟨rfl, hBC.trans (hB4.mono hz3)⟩
  | some x =>
    obtain ⟨X, hX⟩ : ∃ X : ByteArray, (⟨x.toArray⟩ : ByteArray) = X := ⟨_, rfl⟩
    have HX := Lib.hid hX; clear hX
    unfold two
    simp only [HX.out]
    go_wp2_with fail
    refine (rfrom32_any text _ (by omega)).mono ?_
    rintro e w2 ⟨rfl, hB2⟩
    rw [HR.out]
    have hBB := hB1.trans (hB2.mono hz1)
    have hz2 := hBB.size
    unfold two
    simp only [HX.out]
    go_wp2_with fail
    refine (nto32_any d _ (by omega)).mono ?_
    rintro e w3 ⟨rfl, hB3⟩
    rw [HT.out]
    have hBC := hBB.trans (hB3.mono hz2)
    have hz3 := hBC.size
    go_wp2_with fail
    refine (rto32_any d _ (by omega)).mono ?_
    rintro e w4 ⟨rfl, hB4⟩
    rw [HT.out]
    go_wp2
    go_ret
    exact ⟨rfl, hBC.trans (hB4.mono hz3)⟩
end Go.Proofs.Ytjflojefpaffeaa.base32
