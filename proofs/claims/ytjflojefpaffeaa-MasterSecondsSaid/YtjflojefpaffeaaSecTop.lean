/- The law MasterSeconds: its walk. -/
import Derived.Test.YtjflojefpaffeaaSecLaw
namespace Go.Proofs.Ytjflojefpaffeaa.secTop
open Go.RowKit Go.Proofs.Ytjflojefpaffeaa.kit Go.Proofs.Ytjflojefpaffeaa.sec

set_option maxHeartbeats 400000 in
theorem walk (s : ByteArray) (w : World) (hs : s.size ≤ maxLen) :
    Calls Try.prog 5 #[.string s] w fun e w' => e = .returned (.bool true) ∧ Below w.heap.size w w' := by
  go_enter Try.func5, Try.ntmps5
  go_wp2_with fail
  refine (mas_any s w hs).mono ?_
  rintro e w' ⟨rfl, rfl⟩
  rw [secLaw.same]
  generalize hR : refSec s.data.toList = R
  have HR := Lib.hid hR; clear hR
  obtain ⟨x, b⟩ := R
  go_wp2_with fail
  refine (ref_any s w hs).mono ?_
  rw [HR.out]
  rintro e w' ⟨rfl, hB⟩
  cases b
  all_goals
    go_wp2
    go_ret
    exact ⟨rfl, hB⟩
end Go.Proofs.Ytjflojefpaffeaa.secTop
