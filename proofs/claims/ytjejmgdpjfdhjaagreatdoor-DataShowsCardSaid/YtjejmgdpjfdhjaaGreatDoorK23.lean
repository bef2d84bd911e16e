/- The law gazetteerlaw1.DataShows: walk. -/
import Derived.Test.YtjejmgdpjfdhjaaGreatDoorK22
namespace Go.Proofs.YtjejmgdpjfdhjaaGreatDoor.dataShows
open Go.RowKit Go.Proofs.YtjejmgdpjfdhjaaGreatDoor.kit Go.Proofs.YtjejmgdpjfdhjaaGreatDoor.dshow Go.Proofs.YtjejmgdpjfdhjaaGreatDoor.fld Go.Proofs.YtjejmgdpjfdhjaaGreatDoor.dshowB Go.Proofs.YtjejmgdpjfdhjaaGreatDoor.fmt16
set_option linter.unusedVariables false
set_option maxRecDepth 100000 in
set_option maxHeartbeats 1000000 in
theorem walk (t : Int) (s : ByteArray) (w : World) (hs : s.size ≤ maxLen) (hP : PowT w) (hT : TzT w) :
    Calls Tryz.prog 3 #[.int .i64 t, .string s] w fun e w' => e = .returned (.bool true) ∧ Below w.heap.size w w' := by
  obtain ⟨D, hD⟩ : ∃ D : ByteArray, (⟨(showDS t s.data.toList).toArray⟩ : ByteArray) = D := ⟨_, rfl⟩
  obtain ⟨z, hz⟩ : ∃ z, checkS t s.data.toList = z := ⟨_, rfl⟩
  have CD := Lib.hid (dshowT.show_any t s w hs hP hT)
  have CR := Lib.hid (fun w => rshow.rshow_any t s w hs)
  rw [hD, hz] at CD CR
  have hdd : (D.toList == D.toList) = true := by simp
  have hzz : (z == z) = true := by simp
  clear hD hz hP hT
  go_enter Tryz.func3, Tryz.ntmps3
  go_wp2_with fail
  refine CD.out.mono ?_
  rintro e w1 ⟨rfl, hB1⟩
  have HB1 := Lib.hid hB1; clear hB1
  go_wp2_with fail
  refine (CR.out _).mono ?_
  rintro e w2 ⟨rfl, hB2⟩
  have HB2 := Lib.hid (HB1.out.trans (hB2.mono HB1.out.size)); clear hB2
  go_wp2_with fail
  go_ret
  exact ⟨rfl, HB2.out⟩
end Go.Proofs.YtjejmgdpjfdhjaaGreatDoor.dataShows
