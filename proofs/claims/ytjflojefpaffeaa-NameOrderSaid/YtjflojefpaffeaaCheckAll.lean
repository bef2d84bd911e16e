/- name.Check of a text of any size: walk. -/
import Derived.Test.YtjflojefpaffeaaNameSpec
namespace Go.Proofs.Ytjflojefpaffeaa.checkAll
open Go.RowKit Go.Proofs.Ytjflojefpaffeaa.kit Go.Proofs.Ytjflojefpaffeaa.check
theorem check_all (n : ByteArray) (w : World) :
    Calls Try.prog 35 #[.string n] w fun e w' => e = .returned (.int .i64 (chkE n)) ∧ Below w.heap.size w w' := by
  by_cases h1 : 255 < (n.size : Int)
  · exact check_long n w h1
  · exact check_any n w (by omega)
end Go.Proofs.Ytjflojefpaffeaa.checkAll
