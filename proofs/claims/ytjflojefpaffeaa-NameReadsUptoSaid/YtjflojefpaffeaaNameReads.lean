/- The law NameReads: walk. -/
import Derived.Test.YtjflojefpaffeaaNameRead
import Derived.Test.YtjflojefpaffeaaRefRead
namespace Go.Proofs.Ytjflojefpaffeaa.nreads
open Go.RowKit Go.Proofs.Ytjflojefpaffeaa.kit Go.Proofs.Ytjflojefpaffeaa.readS Go.Proofs.Ytjflojefpaffeaa.nread Go.Proofs.Ytjflojefpaffeaa.rread

set_option maxRecDepth 100000 in
set_option maxHeartbeats 1000000 in
theorem law (text origin : ByteArray) (w : World) (ht : text.size ≤ 1048576) (ho : origin.size ≤ 1048576) :
    Calls Try.prog 14 #[.string text, .string origin] w fun e w' => e = .returned (.bool true) ∧ Below w.heap.size w w' := by
  obtain ⟨R, hR⟩ : ∃ R, readS text.data.toList origin.data.toList = R := ⟨_, rfl⟩
  have HR := Lib.hid hR; clear hR
  obtain ⟨d, at', e'⟩ := R
  obtain ⟨D, hD⟩ : ∃ D : ByteArray, (⟨d.toArray⟩ : ByteArray) = D := ⟨_, rfl⟩
  have HD := Lib.hid hD; clear hD
  go_enter Try.func14, Try.ntmps14
  go_wp2_with fail
  refine (nread_any text origin _ (by omega) (by omega)).mono ?_
  rintro e w1 ⟨rfl, hB1⟩
  rw [HR.out]
  unfold Ret3
  simp only [HD.out]
  have hz1 := hB1.size
  go_wp2_with fail
  refine (rread_any text origin _ (by omega) (by omega)).mono ?_
  rintro e w2 ⟨rfl, hB2⟩
  rw [HR.out]
  unfold Ret3
  simp only [HD.out]
  go_wp2
  go_ret
  exact ⟨rfl, hB1.trans (hB2.mono hz1)⟩
end Go.Proofs.Ytjflojefpaffeaa.nreads
