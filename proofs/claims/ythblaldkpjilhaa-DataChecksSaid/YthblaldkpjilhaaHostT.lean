/- How many bytes a name takes: data.host.take: walk. -/
import Derived.Test.YthblaldkpjilhaaHostP
import Derived.Test.YthblaldkpjilhaaTakes
namespace Go.Proofs.Ythblaldkpjilhaa.hostT
open Go.RowKit Go.Proofs.Ythblaldkpjilhaa.kit Go.Proofs.Ythblaldkpjilhaa.check Go.Proofs.Ythblaldkpjilhaa.nspec Go.Proofs.Ythblaldkpjilhaa.rsplit Go.Proofs.Ythblaldkpjilhaa.fld Go.Proofs.Ythblaldkpjilhaa.hostP Go.Proofs.Ythblaldkpjilhaa.takes
set_option linter.unusedVariables false

theorem at_some {s : ByteArray} {a : Nat} {c : UInt8} (h : a < s.size) (hc : s[a] = c) : s.data.toList[a]? = some c := by
  have h' : a < s.data.toList.length := by rw [size_len]; exact h
  rw [List.getElem?_eq_getElem h', ← hc]; rfl
theorem ext0 (s : ByteArray) (n : Nat) : (s.extract 0 n).data.toList = s.data.toList.take n := by rw [Lib.extract_data]; simp

set_option maxRecDepth 100000 in
set_option maxHeartbeats 2000000 in
theorem host_any (s : ByteArray) (w : World) (hs : s.size ≤ 1099511627776) :
    Calls Try.prog 190 #[.agg #[], .string s] w fun e w' => e = .returned (.int .i64 (takeS .host s.data.toList)) ∧ Below w.heap.size w w' := by
  have hBa := Lib.hid ((Below.refl w.heap.size w).alloc (Nat.le_refl _) (.cells #[] 120))
  have HS0 := Lib.hid (Scan.start s.data.toList)
  obtain ⟨R, HR⟩ : ∃ R, Hid (hostS s.data.toList = R) := ⟨_, Lib.hid rfl⟩
  have HT : Hid (takeS .host s.data.toList = R) := Lib.hid HR.out
  rw [HT.out]
  go_enter Try.func190, Try.ntmps190
  go_wp2_with fail
  go_loopg [5] (s.size + 300) (fun gas av wr => ∃ a : Nat, av = .int .i64 a ∧ a ≤ s.size + 256 ∧ s.size + 258 ≤ a + gas ∧ Hid (Scan s.data.toList a) ∧ Below w.heap.size w wr)
  case atStart => exact ⟨0, rfl, by omega, by omega, HS0, hBa.out⟩
  case round =>
    obtain ⟨a, rfl, ha, hgas, HS, hB⟩ := hrel
    have HG := Lib.hid hgas; clear hgas
    have HB := Lib.hid hB; clear hB
    by_cases hlt : a < s.size
    · obtain ⟨c, hc⟩ : ∃ c, s[a] = c := ⟨_, rfl⟩
      have hc256 := byte_lt c
      have HC := Lib.hid (at_some hlt hc)
      by_cases h0 : c.toNat = 0
      · have hc0 : c = 0 := UInt8.toNat_inj.1 h0
        have hz : ((c.toNat : Int)) = 0 := by omega
        have hb : decide (0 < c.toNat) = false := by rw [decide_eq_false_iff_not]; omega
        have hes : (s.extract 0 (a + 1)).data.toList = s.data.toList.take (a + 1) := ext0 s (a + 1)
        have CK := Lib.hid (fun w => check_any (s.extract 0 (a + 1)) w (by rw [ByteArray.size_extract]; omega))
        have hle : (a : Int) + 1 ≤ (s.size : Int) := by omega
        have hlt2 : (a : Int) < (s.size : Int) := by omega
        rcases isB_or (s.extract 0 (a + 1)) with ⟨ls, hN⟩ | hN
        · rw [chk_yes hN] at CK
          rw [hes] at hN
          have HY := Lib.hid (HS.out.yes (by rw [size_len]; omega) hN)
          clear h0 hz hc0 hes hN
          go_wp2_with fail
          refine (CK.out _).mono ?_
          rintro e w1 ⟨rfl, hB1⟩
          have HB1 := Lib.hid (HB.out.trans (hB1.mono HB.out.size)); clear hB1
          go_wp2_with fail
          go_ret
          exact ⟨by rw [← HR.out, HY.out]; rfl, HB1.out⟩
        · rw [chk_no hN] at CK
          rw [hes] at hN
          have HY := Lib.hid (HS.out.no (by rw [HC.out, hc0]) hN)
          clear h0 hz hc0 hes hN
          go_wp2_with fail
          refine (CK.out _).mono ?_
          rintro e w1 ⟨rfl, hB1⟩
          have HB1 := Lib.hid (HB.out.trans (hB1.mono HB.out.size)); clear hB1
          go_wp2_with fail
          go_ret
          exact ⟨by rw [← HR.out, HY.out]; rfl, HB1.out⟩
      · have HS2 := Lib.hid (HS.out.step HC.out h0)
        have hb : decide (0 < c.toNat) = true := by rw [decide_eq_true_eq]; omega
        clear h0
        go_wp2_with fail
        have hgas := HG.out
        go_roundg (gk - 1)
        case rel => exact ⟨a + (1 + c.toNat), by go_num, by omega, by omega, HS2, HB.out⟩
        case measure => omega
    · have HY := Lib.hid (HS.out.far (by rw [size_len]; omega))
      have hge : (s.size : Int) ≤ (a : Int) := by omega
      clear hlt
      go_wp2_with fail
      go_ret
      exact ⟨by rw [← HR.out, HY.out]; rfl, HB.out⟩
end Go.Proofs.Ythblaldkpjilhaa.hostT
