/- seal.Hash, gazetteerref4.Hash, the law SealDigests: walks. What a zone above tells of a key: gazetteerref4.IsKey, Ds of both: walks. gazetteerref4.VerifySet: walk. -/
import Derived.Test.YtflijhodlimjoaaGreatK30
import Derived.Test.YtflijhodlimjoaaGreatK5
import Derived.Test.YtflijhodlimjoaaGreatK29
import Derived.Test.YtflijhodlimjoaaGreatK18
import Derived.Test.YtflijhodlimjoaaGreatQ33
import Derived.Test.YtflijhodlimjoaaGreatK21
import Derived.Test.YtflijhodlimjoaaGreatK31
import Derived.Test.YtflijhodlimjoaaGreatK32
import Derived.Test.YtflijhodlimjoaaGreatK13
import Derived.Test.YtflijhodlimjoaaGreatK20
import Derived.Deep.RegionHeld3
namespace Go.Proofs.YtflijhodlimjoaaGreat.hash
open Go.RowKit Go.Proofs.YtflijhodlimjoaaGreat.kit Go.Proofs.YtflijhodlimjoaaGreat.check Go.Proofs.YtflijhodlimjoaaGreat.nspec Go.Proofs.YtflijhodlimjoaaGreat.rsplit Go.Proofs.YtflijhodlimjoaaGreat.refA Go.Proofs.YtflijhodlimjoaaGreat.nameB Go.Proofs.YtflijhodlimjoaaGreat.half Go.Proofs.YtflijhodlimjoaaGreat.digest
set_option linter.unusedVariables false

def hI (n salt : Bs) : Nat → Bs
  | 0 => digestS (foldS n ++ salt)
  | k + 1 => digestS (hI n salt k ++ salt)
theorem hI_len (n salt : Bs) (k : Nat) : (hI n salt k).length = 10 := by cases k <;> exact digest_len _
def hashS (n salt : Bs) (rounds : Int) : Bs × Int := if split n = none then ([], 1) else if 255 < salt.length ∨ rounds < 0 ∨ 50 < rounds then ([], 23) else (hI n salt rounds.toNat, 0)
def Ret2 (r : Bs × Int) : Ending := .returned (.tuple #[.string ⟨r.1.toArray⟩, .int .i64 r.2])
theorem fold_size {n : ByteArray} {ls : List Bs} (h : IsN n.data.toList ls) : (foldS n.data.toList).length ≤ 255 := by
  rw [foldS_yes h, put_length, room_low]
  have := isN_room h; omega
theorem arr_app (a b : ByteArray) : (a ++ b).data.toList = a.data.toList ++ b.data.toList := by simp

set_option maxRecDepth 100000 in
set_option maxHeartbeats 2000000 in
theorem nhash_any (n salt : ByteArray) (rounds : Int) (w : World) (hn : n.size ≤ 1099511627776) (hs : salt.size ≤ 1099511627776) :
    Calls Tryz.prog 158 #[.string n, .string salt, .int .i64 rounds] w fun e w' => e = Ret2 (hashS n.data.toList salt.data.toList rounds) ∧ Below w.heap.size w w' := by
  obtain ⟨R, HR⟩ : ∃ R, Hid (hashS n.data.toList salt.data.toList rounds = R) := ⟨_, Lib.hid rfl⟩
  rw [HR.out]
  rcases isB_or n with ⟨ls, hN⟩ | hN
  · have HK := Lib.hid (chk_yes hN)
    have hfs := fold_size hN
    have hsp : split n.data.toList ≠ none := by rw [split_iff.2 hN]; simp
    clear hN
    by_cases hbad : 255 < (salt.size : Int) ∨ rounds < 0 ∨ 50 < rounds
    · have HN : Hid (R = ([], 23)) := Lib.hid (by rw [← HR.out, hashS, if_neg hsp, if_pos (by rw [size_len]; omega)])
      clear hsp
      by_cases h1 : 255 < (salt.size : Int)
      · clear hbad
        go_enter Tryz.func158, Tryz.ntmps158
        go_wp2_with fail
        refine (check_any n _ hn).mono ?_
        rintro e w1 ⟨rfl, hB1⟩
        rw [HK.out]
        go_wp2
        go_ret2
        exact ⟨by rw [HN.out]; rfl, hB1⟩
      · have h1' : (salt.size : Int) ≤ 255 := by omega
        by_cases h2 : rounds < 0
        · clear hbad h1
          go_enter Tryz.func158, Tryz.ntmps158
          go_wp2_with fail
          refine (check_any n _ hn).mono ?_
          rintro e w1 ⟨rfl, hB1⟩
          rw [HK.out]
          go_wp2
          go_ret2
          exact ⟨by rw [HN.out]; rfl, hB1⟩
        · have h2' : 0 ≤ rounds := by omega
          have h3 : 50 < rounds := by omega
          clear hbad h1 h2
          go_enter Tryz.func158, Tryz.ntmps158
          go_wp2_with fail
          refine (check_any n _ hn).mono ?_
          rintro e w1 ⟨rfl, hB1⟩
          rw [HK.out]
          go_wp2
          go_ret2
          exact ⟨by rw [HN.out]; rfl, hB1⟩
    · have hs2 : (salt.size : Int) ≤ 255 := by omega
      obtain ⟨r, rfl⟩ := Int.eq_ofNat_of_zero_le (show 0 ≤ rounds by omega)
      have hr50 : (r : Int) ≤ 50 := by omega
      have HN : Hid (R = (hI n.data.toList salt.data.toList r, 0)) := Lib.hid (by rw [← HR.out, hashS, if_neg hsp, if_neg (by rw [size_len]; omega), Int.toNat_natCast])
      clear hsp hbad
      obtain ⟨F, hF⟩ : ∃ F : ByteArray, (⟨(foldS n.data.toList).toArray⟩ : ByteArray) = F := ⟨_, rfl⟩
      have hFd : F.data.toList = foldS n.data.toList := by rw [← hF]
      have hFs : F.size ≤ 255 := by rw [← size_len, hFd]; exact hfs
      have HF := Lib.hid hF
      obtain ⟨H0, hH0⟩ : ∃ H : ByteArray, (⟨(digestS (F ++ salt).data.toList).toArray⟩ : ByteArray) = H := ⟨_, rfl⟩
      have HH0 := Lib.hid hH0
      have hH0d : H0.data.toList = hI n.data.toList salt.data.toList 0 := by rw [← hH0, hI, ← hFd, ← arr_app]
      have HH0D := Lib.hid hH0d
      have hH0s : H0.size ≤ 10 := by rw [← size_len, hH0d, hI_len]; exact Nat.le_refl 10
      clear hF hFd hfs hH0 hH0d
      go_enter Tryz.func158, Tryz.ntmps158
      go_wp2_with fail
      refine (check_any n _ hn).mono ?_
      rintro e w1 ⟨rfl, hB1⟩
      rw [HK.out]
      go_wp2_with fail
      refine (nfold_any n _ hn).mono ?_
      rintro e w2 ⟨rfl, hB2⟩
      rw [HF.out]
      have hBB := hB1.trans (hB2.mono hB1.size)
      go_wp2_with fail
      refine (ndigest_any (F ++ salt) _ (by rw [ByteArray.size_append]; omega)).mono ?_
      rintro e w3 ⟨rfl, hB3⟩
      rw [HH0.out]
      have hBC := hBB.trans (hB3.mono hBB.size)
      go_wp2
      go_loopg [8, 29] (r + 1) (fun gas hv kv wr => ∃ (k : Nat) (H : ByteArray), kv = .int .i64 k ∧ hv = .string H ∧ k ≤ r ∧ k + gas = r + 1 ∧ H.size ≤ 10 ∧ Hid (H.data.toList = hI n.data.toList salt.data.toList k) ∧ Below w.heap.size w wr)
      case atStart => exact ⟨0, H0, rfl, rfl, by omega, by omega, hH0s, HH0D, hBC⟩
      case round =>
        clear hB1 hB2 hBB hB3 hBC
        obtain ⟨k, H, rfl, rfl, hk, hkg, hHs, HH, hB⟩ := hrel
        have HKK := Lib.hid hkg; clear hkg
        by_cases hlt : k < r
        · obtain ⟨H1, hH1⟩ : ∃ H1 : ByteArray, (⟨(digestS (H ++ salt).data.toList).toArray⟩ : ByteArray) = H1 := ⟨_, rfl⟩
          have hH1d : H1.data.toList = hI n.data.toList salt.data.toList (k + 1) := by rw [← hH1, hI, ← HH.out, ← arr_app]
          have HH1D := Lib.hid hH1d
          have hH1s : H1.size ≤ 10 := by rw [← size_len, hH1d, hI_len]; exact Nat.le_refl 10
          have HH1 := Lib.hid hH1
          clear hH1 hH1d
          go_wp2_with fail
          refine (ndigest_any (H ++ salt) _ (by rw [ByteArray.size_append]; omega)).mono ?_
          rintro e w4 ⟨rfl, hB4⟩
          rw [HH1.out]
          go_wp2
          have hkg := HKK.out
          go_roundg (gk - 1)
          case rel => exact ⟨k + 1, H1, by go_num, rfl, by omega, by omega, hH1s, HH1D, hB.trans (hB4.mono hB.size)⟩
          case measure => omega
        · have hkr : k = r := by omega
          subst hkr
          have HE : Hid ((⟨(hI n.data.toList salt.data.toList k).toArray⟩ : ByteArray) = H) := Lib.hid (ba_ext HH.out.symm)
          go_wp2
          go_ret2
          exact ⟨by rw [HN.out]; unfold Ret2; rw [HE.out]; rfl, hB⟩
  · have HK := Lib.hid (chk_no hN)
    have HN : Hid (R = ([], 1)) := Lib.hid (by rw [← HR.out, hashS, if_pos hN])
    clear hN
    go_enter Tryz.func158, Tryz.ntmps158
    go_wp2_with fail
    refine (check_any n _ hn).mono ?_
    rintro e w1 ⟨rfl, hB1⟩
    rw [HK.out]
    go_wp2
    go_ret2
    exact ⟨by rw [HN.out]; rfl, hB1⟩

set_option maxRecDepth 100000 in
set_option maxHeartbeats 2000000 in
theorem rhash_ok (n salt : ByteArray) (ls : List Bs) (hN0 : IsN n.data.toList ls) (hs2 : (salt.size : Int) ≤ 255) (k : Nat) : ∀ (w : World), k ≤ 50 →
    Calls Tryz.prog 111 #[.string n, .string salt, .int .i64 (k : Int)] w fun e w' => e = Ret2 (hI n.data.toList salt.data.toList k, 0) ∧ Below w.heap.size w w' := by
  have hn : n.size ≤ 1099511627776 := by have := hN0.2.2; rw [size_len] at this; omega
  have HI := Lib.hid (isB_yes hN0)
  have hfs := fold_size hN0
  obtain ⟨F, hF⟩ : ∃ F : ByteArray, (⟨(foldS n.data.toList).toArray⟩ : ByteArray) = F := ⟨_, rfl⟩
  have hFd : F.data.toList = foldS n.data.toList := by rw [← hF]
  have hFs : F.size ≤ 255 := by rw [← size_len, hFd]; exact hfs
  have HF := Lib.hid hF
  have HFD := Lib.hid hFd
  clear hF hFd hfs hN0
  induction k with
  | zero =>
    intro w _
    obtain ⟨H0, hH0⟩ : ∃ H : ByteArray, (⟨(digestS (F ++ salt).data.toList).toArray⟩ : ByteArray) = H := ⟨_, rfl⟩
    have HH0 := Lib.hid hH0
    have HE : Hid ((⟨(hI n.data.toList salt.data.toList 0).toArray⟩ : ByteArray) = H0) := Lib.hid (by rw [← hH0, hI, ← HFD.out, ← arr_app])
    clear hH0
    go_enter Tryz.func111, Tryz.ntmps111
    go_wp2_with fail
    refine (isName_any n _ hn).mono ?_
    rintro e w1 ⟨rfl, hB1⟩
    rw [HI.out]
    go_wp2_with fail
    refine (fold_any n _ hn).mono ?_
    rintro e w2 ⟨rfl, hB2⟩
    rw [HF.out]
    go_wp2_with fail
    refine (rdigest_any (F ++ salt) _ (by rw [ByteArray.size_append]; omega)).mono ?_
    rintro e w3 ⟨rfl, hB3⟩
    rw [HH0.out]
    go_wp2
    go_ret2
    have hBB := hB1.trans (hB2.mono hB1.size)
    exact ⟨by unfold Ret2; rw [HE.out]; rfl, hBB.trans (hB3.mono hBB.size)⟩
  | succ k ih =>
    intro w hk
    have IH := Lib.hid (fun w => ih w (by omega))
    clear ih
    obtain ⟨m, hm⟩ : ∃ m, k + 1 = m := ⟨_, rfl⟩
    obtain ⟨P, hP⟩ : ∃ P : ByteArray, (⟨(hI n.data.toList salt.data.toList k).toArray⟩ : ByteArray) = P := ⟨_, rfl⟩
    have hPd : P.data.toList = hI n.data.toList salt.data.toList k := by rw [← hP]
    have hPs : P.size ≤ 10 := by rw [← size_len, hPd, hI_len]; exact Nat.le_refl 10
    have HP := Lib.hid hP
    obtain ⟨H0, hH0⟩ : ∃ H : ByteArray, (⟨(digestS (P ++ salt).data.toList).toArray⟩ : ByteArray) = H := ⟨_, rfl⟩
    have HH0 := Lib.hid hH0
    have HE : Hid ((⟨(hI n.data.toList salt.data.toList m).toArray⟩ : ByteArray) = H0) := Lib.hid (by rw [← hm, ← hH0, hI, ← hPd, ← arr_app])
    have hm1 : (1 : Int) ≤ (m : Int) := by omega
    have hm50 : (m : Int) ≤ 50 := by omega
    have hm0 : ((m : Int) == 0) = false := by rw [beq_eq_false_iff_ne]; omega
    have hsub : Value.int .i64 ((m : Int) - 1) = Value.int .i64 (k : Int) := by congr 1; omega
    rw [hm]
    clear hm hP hPd hH0
    go_enter Tryz.func111, Tryz.ntmps111
    go_wp2_with fail
    refine (isName_any n _ hn).mono ?_
    rintro e w1 ⟨rfl, hB1⟩
    rw [HI.out]
    go_wp2_with fail
    refine (IH.out _).mono ?_
    rintro e w2 ⟨rfl, hB2⟩
    unfold Ret2
    simp only [HP.out]
    go_wp2_with fail
    refine (rdigest_any (P ++ salt) _ (by rw [ByteArray.size_append]; omega)).mono ?_
    rintro e w3 ⟨rfl, hB3⟩
    rw [HH0.out]
    go_wp2
    go_ret2
    have hBB := hB1.trans (hB2.mono hB1.size)
    refine ⟨?_, hBB.trans (hB3.mono hBB.size)⟩
    have hfin : Ret2 (hI n.data.toList salt.data.toList m, 0) = .returned (.tuple #[.string H0, .int .i64 0]) := by unfold Ret2; rw [HE.out]
    exact hfin.symm

set_option maxRecDepth 100000 in
set_option maxHeartbeats 2000000 in
theorem rhash_any (n salt : ByteArray) (rounds : Int) (w : World) (hn : n.size ≤ 1099511627776) (hs : salt.size ≤ 1099511627776) :
    Calls Tryz.prog 111 #[.string n, .string salt, .int .i64 rounds] w fun e w' => e = Ret2 (hashS n.data.toList salt.data.toList rounds) ∧ Below w.heap.size w w' := by
  obtain ⟨R, HR⟩ : ∃ R, Hid (hashS n.data.toList salt.data.toList rounds = R) := ⟨_, Lib.hid rfl⟩
  rw [HR.out]
  rcases isB_or n with ⟨ls, hN⟩ | hN
  · have HI := Lib.hid (isB_yes hN)
    have hsp : split n.data.toList ≠ none := by rw [split_iff.2 hN]; simp
    by_cases hbad : 255 < (salt.size : Int) ∨ rounds < 0 ∨ 50 < rounds
    · have HN : Hid (R = ([], 23)) := Lib.hid (by rw [← HR.out, hashS, if_neg hsp, if_pos (by rw [size_len]; omega)])
      clear hsp hN
      by_cases h1 : 255 < (salt.size : Int)
      · clear hbad
        go_enter Tryz.func111, Tryz.ntmps111
        go_wp2_with fail
        refine (isName_any n _ hn).mono ?_
        rintro e w1 ⟨rfl, hB1⟩
        rw [HI.out]
        go_wp2
        go_ret2
        exact ⟨by rw [HN.out]; rfl, hB1⟩
      · have h1' : (salt.size : Int) ≤ 255 := by omega
        by_cases h2 : rounds < 0
        · clear hbad h1
          go_enter Tryz.func111, Tryz.ntmps111
          go_wp2_with fail
          refine (isName_any n _ hn).mono ?_
          rintro e w1 ⟨rfl, hB1⟩
          rw [HI.out]
          go_wp2
          go_ret2
          exact ⟨by rw [HN.out]; rfl, hB1⟩
        · have h2' : 0 ≤ rounds := by omega
          have h3 : 50 < rounds := by omega
          clear hbad h1 h2
          go_enter Tryz.func111, Tryz.ntmps111
          go_wp2_with fail
          refine (isName_any n _ hn).mono ?_
          rintro e w1 ⟨rfl, hB1⟩
          rw [HI.out]
          go_wp2
          go_ret2
          exact ⟨by rw [HN.out]; rfl, hB1⟩
    · have hs2 : (salt.size : Int) ≤ 255 := by omega
      obtain ⟨r, rfl⟩ := Int.eq_ofNat_of_zero_le (show 0 ≤ rounds by omega)
      rw [← HR.out, hashS, if_neg hsp, if_neg (by rw [size_len]; omega), Int.toNat_natCast]
      exact rhash_ok n salt ls hN hs2 r w (by omega)
  · have HI := Lib.hid (isB_no hN)
    have HN : Hid (R = ([], 1)) := Lib.hid (by rw [← HR.out, hashS, if_pos hN])
    clear hN
    go_enter Tryz.func111, Tryz.ntmps111
    go_wp2_with fail
    refine (isName_any n _ hn).mono ?_
    rintro e w1 ⟨rfl, hB1⟩
    rw [HI.out]
    go_wp2
    go_ret2
    exact ⟨by rw [HN.out]; rfl, hB1⟩

end Go.Proofs.YtflijhodlimjoaaGreat.hash
namespace Go.Proofs.YtflijhodlimjoaaGreat.ds
open Go.RowKit Go.Proofs.YtflijhodlimjoaaGreat.newKey Go.Proofs.YtflijhodlimjoaaGreat.kit Go.Proofs.YtflijhodlimjoaaGreat.right Go.Proofs.YtflijhodlimjoaaGreat.big Go.Proofs.YtflijhodlimjoaaGreat.pub Go.Proofs.YtflijhodlimjoaaGreat.val Go.Proofs.YtflijhodlimjoaaGreat.opens Go.Proofs.YtflijhodlimjoaaGreat.tag Go.Proofs.YtflijhodlimjoaaGreat.hash Go.Proofs.YtflijhodlimjoaaGreat.digest Go.Proofs.YtflijhodlimjoaaGreat.half Go.Proofs.YtflijhodlimjoaaGreat.check Go.Proofs.YtflijhodlimjoaaGreat.nspec Go.Proofs.YtflijhodlimjoaaGreat.rsplit Go.Proofs.YtflijhodlimjoaaGreat.refA Go.Proofs.YtflijhodlimjoaaGreat.nameB
set_option linter.unusedVariables false

set_option maxRecDepth 100000 in
set_option maxHeartbeats 2000000 in
theorem isKey_any (s : ByteArray) (w : World) (hs : s.size ≤ 1099511627776) :
    Calls Tryz.prog 87 #[.string s] w fun en w' => en = .returned (.bool (isKeyB s.data.toList)) ∧ Below w.heap.size w w' := by
  by_cases h12 : s.size = 12
  · have hl : s.data.toList.length = 12 := by rw [size_len]; exact h12
    have x1 : (s.extract 0 2).size ≤ 4 := by rw [ext_size _ _ _ (by omega)]; decide
    have x2 : (s.extract 4 8).size ≤ 4 := by rw [ext_size _ _ _ (by omega)]; decide
    have x3 : (s.extract 8 s.size).size ≤ 4 := by rw [ext_size _ _ _ (by omega)]; omega
    have C1 := Lib.hid (fun w => rvalue_any (s.extract 0 2) w x1)
    have C2 := Lib.hid (fun w => rvalue_any (s.extract 4 8) w x2)
    have C3 := Lib.hid (fun w => rvalue_any (s.extract 8 s.size) w x3)
    have e1 : valL (s.extract 0 2).data.toList 0 = kF s.data.toList := by rw [ext_list]; rfl
    have e2 : valL (s.extract 4 8).data.toList 0 = kM s.data.toList := by rw [ext_list]; rfl
    have e3 : valL (s.extract 8 s.size).data.toList 0 = kE s.data.toList := by rw [ext_list, h12]; rfl
    rw [e1] at C1
    rw [e2] at C2
    rw [e3] at C3
    have HK : Hid (isKeyB s.data.toList = decide (pubS (kF s.data.toList : Nat) (kM s.data.toList : Nat) (kE s.data.toList : Nat) 1 = s.data.toList)) := Lib.hid (by unfold isKeyB; rw [hl]; rfl)
    obtain ⟨F, hF⟩ : ∃ F, kF s.data.toList = F := ⟨_, rfl⟩
    obtain ⟨M, hM⟩ : ∃ M, kM s.data.toList = M := ⟨_, rfl⟩
    obtain ⟨E, hE⟩ : ∃ E, kE s.data.toList = E := ⟨_, rfl⟩
    rw [hF] at C1
    rw [hM] at C2
    rw [hE] at C3
    rw [hF, hM, hE] at HK
    have CP := Lib.hid (fun w => rpub_any (F : Int) (M : Int) (E : Int) 1 w)
    obtain ⟨D, hD⟩ : ∃ D : ByteArray, (⟨(pubS (F : Int) (M : Int) (E : Int) 1).toArray⟩ : ByteArray) = D := ⟨_, rfl⟩
    have HD : Hid (isKeyB s.data.toList = (D.toList == s.toList)) := Lib.hid (by rw [HK.out, ← hD, Lib.toList_data, Lib.toList_data, Bool.eq_iff_iff]; simp)
    rw [hD] at CP
    rw [HD.out]
    have hle : s.size ≤ 12 := by omega
    have hge : 12 ≤ s.size := by omega
    have b12 : ((s.size : Int) != 12) = false := by rw [h12]; rfl
    have q2 : (2 : Int) ≤ (s.size : Int) := by omega
    have q4 : (4 : Int) ≤ (s.size : Int) := by omega
    have q8 : (8 : Int) ≤ (s.size : Int) := by omega
    have q12 : (12 : Int) ≤ (s.size : Int) := by omega
    clear h12 hl e1 e2 e3 hF hM hE hD HK x1 x2 x3
    go_enter Tryz.func87, Tryz.ntmps87
    go_wp2_with fail
    go_region_held3 (fun w' => Below w.heap.size w w') (first | assumption | exact (Below.refl _ _).drew)
      (first
        | (go_at_call_of 85 (Value.string (s.extract 0 2)); refine (C1.out _).mono ?_; rintro e w' ⟨rfl, rfl⟩)
        | (go_at_call_of 85 (Value.string (s.extract 4 8)); refine (C2.out _).mono ?_; rintro e w' ⟨rfl, rfl⟩)
        | (go_at_call_of 85 (Value.string (s.extract 8 s.size)); refine (C3.out _).mono ?_; rintro e w' ⟨rfl, rfl⟩)
        | (go_at_call_of 67 (Value.agg #[.int .i64 (F : Int), .int .i64 (M : Int), .int .i64 (E : Int), .int .i64 1]); refine (CP.out _).mono ?_; rintro e w' ⟨rfl, hBz⟩; have hBy := Below.trans (by assumption) (hBz.mono (Below.size (by assumption))); clear hBz))
    all_goals (go_wp2_with fail; go_ret; exact ⟨rfl, by assumption⟩)
  · have hl : s.data.toList.length ≠ 12 := by rw [size_len]; exact h12
    have HO : Hid (isKeyB s.data.toList = false) := Lib.hid (by unfold isKeyB; rw [decide_eq_false hl]; rfl)
    rw [HO.out]
    have b12 : ((s.size : Int) != 12) = true := by rw [bne_iff_ne]; omega
    clear h12 hl
    go_enter Tryz.func87, Tryz.ntmps87
    go_wp2_with fail
    go_ret
    exact ⟨rfl, Below.refl _ _⟩

def dsS (o d : Bs) : Bs × Int := if split o = none then ([], 1) else if isKeyB d = false then ([], 24) else (bigS (tagS d) 2 ++ [253, 1] ++ digestS (foldS o ++ d), 0)
theorem key_len {d : Bs} (h : isKeyB d = true) : d.length = 12 := by unfold isKeyB at h; rw [Bool.and_eq_true, decide_eq_true_eq] at h; exact h.1
theorem open_form (d : Bs) : ∃ a b c e : Int, openR d = .returned (.tuple #[.agg #[.int .i64 a, .int .i64 b, .int .i64 c, .int .i64 e], .bool (isKeyB d)]) := by
  unfold openR; split
  · exact ⟨_, _, _, _, rfl⟩
  · exact ⟨_, _, _, _, rfl⟩
theorem ds_len (o d : Bs) : (dsS o d).1.length ≤ 14 := by
  unfold dsS; split
  · simp
  · split
    · simp
    · simp [bigS_len, digest_len]
theorem tag_lt (d : Bs) : tagS d < 65536 := Nat.mod_lt _ (by omega)

end Go.Proofs.YtflijhodlimjoaaGreat.ds
namespace Go.Proofs.YtflijhodlimjoaaGreat.verifySet
open Go.RowKit Go.Proofs.YtflijhodlimjoaaGreat.kit Go.Proofs.YtflijhodlimjoaaGreat.timed Go.Proofs.YtflijhodlimjoaaGreat.nspec Go.Proofs.YtflijhodlimjoaaGreat.rsplit Go.Proofs.YtflijhodlimjoaaGreat.refA Go.Proofs.YtflijhodlimjoaaGreat.refB Go.Proofs.YtflijhodlimjoaaGreat.wireP Go.Proofs.YtflijhodlimjoaaGreat.wireM Go.Proofs.YtflijhodlimjoaaGreat.rows Go.Proofs.YtflijhodlimjoaaGreat.sealA Go.Proofs.YtflijhodlimjoaaGreat.sealS Go.Proofs.YtflijhodlimjoaaGreat.sealP Go.Proofs.YtflijhodlimjoaaGreat.big Go.Proofs.YtflijhodlimjoaaGreat.val Go.Proofs.YtflijhodlimjoaaGreat.pub Go.Proofs.YtflijhodlimjoaaGreat.half Go.Proofs.YtflijhodlimjoaaGreat.tag Go.Proofs.YtflijhodlimjoaaGreat.signP Go.Proofs.YtflijhodlimjoaaGreat.keepN Go.Proofs.YtflijhodlimjoaaGreat.sortT Go.Proofs.YtflijhodlimjoaaGreat.fld Go.Proofs.YtflijhodlimjoaaGreat.opens Go.Proofs.YtflijhodlimjoaaGreat.verP Go.Proofs.YtflijhodlimjoaaGreat.signed
set_option linter.unusedVariables false

/-- what Parts tells -/
def PartsE (ps : List Bs) (e : Ending) (w' : World) : Prop := ∃ a c, e = .returned (.tuple #[.slice a 9 c, .bool true]) ∧ Rd w' a 0 ps
theorem parts46 {d : ByteArray} {p0 p1 p2 p3 p4 p5 p6 p7 p8 : Bs} (hg : Sg d.data.toList p0 p1 p2 p3 p4 p5 p6 p7 p8) (w : World) :
    Calls Tryz.prog 83 #[.string ⟨([107, 49, 49, 52, 52, 52, 50, 110, 98] : Bs).toArray⟩, .string d] w fun e w' => PartsE [p0, p1, p2, p3, p4, p5, p6, p7, p8] e w' ∧ Below w.heap.size w w' := by
  refine (parts.parts_any F46 ⟨([107, 49, 49, 52, 52, 52, 50, 110, 98] : Bs).toArray⟩ d w rfl (checkData.form_fair4 form46) (by rw [← size_len]; exact hg.len) 9 rfl).mono ?_
  rintro e w' ⟨hB, ⟨v, p, r, hsp, rfl, hown⟩ | ⟨hsp, _⟩⟩
  · rw [hg.spl] at hsp
    simp only [Option.some.injEq, Prod.mk.injEq] at hsp
    obtain ⟨rfl, rfl⟩ := hsp
    obtain ⟨a, c, hv, hrd⟩ := Rd.of_own hown
    subst hv
    exact ⟨⟨a, c, rfl, fun j x hx => by obtain ⟨g, o, e1, _, e3, e4⟩ := hrd j x hx; exact ⟨g, o, e1, Nat.zero_le _, e3, e4⟩⟩, hB⟩
  · rw [hg.spl] at hsp; cases hsp
/-- the boxes: the signature's record, the set's first; the parts -/
structure Bw (X Z pg po : Nat) (sg h : Rc) (P0 P1 P2 P3 P4 P5 P6 P7 P8 : ByteArray) (w : World) : Prop where
  x : w.heap[X]? = some (.cells #[.string sg.o, .int .i64 sg.t, .int .i64 sg.c, .int .i64 sg.l, .string sg.d] 34)
  z : w.heap[Z]? = some (.cells #[.string h.o, .int .i64 h.t, .int .i64 h.c, .int .i64 h.l, .string h.d] 34)
  r : Rd8 w (some ⟨pg, po, none⟩) P0 P1 P2 P3 P4 P5 P6 P7 pg po
  r8 : w.cell? ⟨pg, po + 8, none⟩ = some (.string P8)
section
variable {X Z pg po : Nat} {sg h : Rc} {P0 P1 P2 P3 P4 P5 P6 P7 P8 : ByteArray} {w : World}
theorem Bw.step (h0 : Bw X Z pg po sg h P0 P1 P2 P3 P4 P5 P6 P7 P8 w) {w' : World} (hB : Below w.heap.size w w') : Bw X Z pg po sg h P0 P1 P2 P3 P4 P5 P6 P7 P8 w' :=
  ⟨(hB.block _ (Array.getElem?_eq_some_iff.1 h0.x).1).trans h0.x, (hB.block _ (Array.getElem?_eq_some_iff.1 h0.z).1).trans h0.z, signSet.Rd8.below h0.r hB, ck hB h0.r8⟩
theorem Bw.sgo (h0 : Bw X Z pg po sg h P0 P1 P2 P3 P4 P5 P6 P7 P8 w) : w.cell? ⟨X, 0, none⟩ = some (.string sg.o) := (signSet.cells5 h0.x).1
theorem Bw.ho (h0 : Bw X Z pg po sg h P0 P1 P2 P3 P4 P5 P6 P7 P8 w) : w.cell? ⟨Z, 0, none⟩ = some (.string h.o) := (signSet.cells5 h0.z).1
theorem Bw.ht (h0 : Bw X Z pg po sg h P0 P1 P2 P3 P4 P5 P6 P7 P8 w) : w.cell? ⟨Z, 1, none⟩ = some (.int .i64 h.t) := (signSet.cells5 h0.z).2.1
end

set_option maxRecDepth 100000 in
set_option maxHeartbeats 16000000 in
theorem verifyset_any (a : Option Addr) (n c : Nat) (L : List Rc) (sg : Rc) (ow kd : ByteArray) (now : Int) (w : World) (hn : n = L.length) (hr : RdC w a 5 (L.map Rc.cells)) (ho : ∀ x ∈ L, OkR x) (hbig : n ≤ 16777216) (hbk : bulk (L.map foldX) ≤ 68719476736) (hsg : OkR sg) (how : ow.size ≤ 1099511627776) (hkd : kd.size ≤ 1099511627776) :
    Calls Tryz.prog 17 #[.slice a n c, .agg #[.string sg.o, .int .i64 sg.t, .int .i64 sg.c, .int .i64 sg.l, .string sg.d], .string ow, .string kd, .int .i64 now] w fun e w' => e = .returned (.int .i64 (VerC L sg ow.data.toList kd.data.toList now)) ∧ Below w.heap.size w w' := by
  obtain ⟨RR, hRR⟩ : ∃ RR, VerC L sg ow.data.toList kd.data.toList now = RR := ⟨_, rfl⟩
  rw [hRR]
  have HRR := Lib.hid hRR
  have HN := Lib.hid hn; have HRD := Lib.hid hr; have HO := Lib.hid ho; have HBK := Lib.hid hbk; have HSG := Lib.hid hsg
  have hb1 := (Below.refl w.heap.size w).alloc (Nat.le_refl _) (.cells #[.string sg.o, .int .i64 sg.t, .int .i64 sg.c, .int .i64 sg.l, .string sg.d] 34)
  have hk1 := heap_alloc_new w (.cells #[.string sg.o, .int .i64 sg.t, .int .i64 sg.c, .int .i64 sg.l, .string sg.d] 34)
  obtain ⟨X, hX⟩ : ∃ X, w.heap.size = X := ⟨_, rfl⟩
  obtain ⟨W, hW⟩ : ∃ W, w.alloc (.cells #[.string sg.o, .int .i64 sg.t, .int .i64 sg.c, .int .i64 sg.l, .string sg.d] 34) = W := ⟨_, rfl⟩
  rw [hW] at hb1 hk1
  rw [hX] at hk1
  have HX := Lib.hid hX; have HW := Lib.hid hW; have HB1 := Lib.hid hb1; have HK1 := Lib.hid hk1
  have CI := Lib.hid (isSet.isset_any a n c L W hn (hr.below hb1 (by rw [hX])) ho (by omega))
  have CZ := Lib.hid (fun wx => zonal_any sg wx hsg.o (Nat.le_trans hsg.d (by unfold maxLen; omega)))
  clear hRR hn hr ho hbk hb1 hk1 hX hW hsg
  go_enter Tryz.func17, Tryz.ntmps17
  trace "1"
  go_upto_region 1 with fail
  rw [HW.out]
  try rw [HX.out]
  go_wp2_with fail
  refine CI.out.mono ?_
  rintro e w2 ⟨rfl, hB2⟩
  have HB2 := Lib.hid (HB1.out.trans (hB2.mono HB1.out.size))
  have HK2 := Lib.hid ((hB2.block X (Array.getElem?_eq_some_iff.1 HK1.out).1).trans HK1.out)
  clear hB2 CI
  cases hs : setB L with
  | false =>
    have HR1 := Lib.hid (HRR.out.symm.trans (vc_set hs))
    clear hs
    trace "no"
    go_wp2_with fail
    go_ret
    exact ⟨by rw [HR1.out]; rfl, HB2.out⟩
  | true =>
  have HS := Lib.hid hs
  have hnl := HN.out
  obtain ⟨h, h0⟩ : ∃ h, L[0]? = some h := by
    cases L with
    | nil => cases hs
    | cons x r => exact ⟨x, rfl⟩
  have H0 := Lib.hid h0
  have hpos : 0 < n := by rw [hnl]; exact (List.getElem?_eq_some_iff.1 h0).1
  obtain ⟨g1, o1, ha1, hg1, hcl⟩ := at_r HRD.out h0
  subst ha1
  rw [Nat.zero_mul, Nat.add_zero] at hcl
  have HCL := Lib.hid hcl; have HG1 := Lib.hid hg1
  obtain ⟨st, hst⟩ : ∃ z, sg.t = z := ⟨_, rfl⟩
  obtain ⟨x0, x1, x2, x3, x4, _⟩ := signSet.cells5 HK2.out
  rw [hst] at x1 CZ
  have HST := Lib.hid hst
  clear hs hnl h0 hcl hg1 hst
  trace "2"
  by_cases h1 : ¬ st = 46
  · have e1 : (st != 46) = true := bne_iff_ne.2 h1
    have HR1 := Lib.hid (HRR.out.symm.trans (vc_type (by rw [HST.out]; exact h1)))
    trace "no"
    go_wp2_with fail
    go_ret
    exact ⟨by rw [HR1.out]; rfl, HB2.out⟩
  obtain rfl : st = 46 := by omega
  obtain ⟨ZB, hZB⟩ : ∃ ZB, zonB sg = ZB := ⟨_, rfl⟩
  rw [hZB] at CZ
  have HZB := Lib.hid hZB
  clear hZB h1
  trace "3"
  go_wp2_with fail
  refine (CZ.out _).mono ?_
  rintro e w3 ⟨rfl, hB3⟩
  have HB3 := Lib.hid (HB2.out.trans (hB3.mono HB2.out.size))
  have HK3 := Lib.hid ((hB3.block X (Array.getElem?_eq_some_iff.1 HK2.out).1).trans HK2.out)
  clear hB3 x0 x1 x2 x3 x4 CZ
  cases hb : ZB with
  | false =>
    have HR1 := Lib.hid (HRR.out.symm.trans (vc_zon (by rw [HZB.out, hb])))
    subst hb
    trace "no"
    go_wp2_with fail
    go_ret
    exact ⟨by rw [HR1.out]; rfl, HB3.out⟩
  | true =>
  have HZ : Hid (zonB sg = true) := Lib.hid (by rw [HZB.out, hb])
  subst hb
  have hce : checkS 46 sg.d.data.toList = 0 := by have h9 := (zon_facts HZ.out).2.2.2.2; rw [HST.out] at h9; exact h9
  obtain ⟨p0, p1, p2, p3, p4, p5, p6, p7, p8, hg⟩ := sg_of hce
  have HGS := Lib.hid hg
  have HVC := Lib.hid (HRR.out.symm.trans (vc_go HS.out HST.out HZ.out H0.out hg))

  obtain ⟨P0, hP0⟩ : ∃ B : ByteArray, (⟨p0.toArray⟩ : ByteArray) = B := ⟨_, rfl⟩
  have HP0 : Hid (P0.data.toList = p0) := Lib.hid (by rw [← hP0])
  obtain ⟨P1, hP1⟩ : ∃ B : ByteArray, (⟨p1.toArray⟩ : ByteArray) = B := ⟨_, rfl⟩
  have HP1 : Hid (P1.data.toList = p1) := Lib.hid (by rw [← hP1])
  obtain ⟨P2, hP2⟩ : ∃ B : ByteArray, (⟨p2.toArray⟩ : ByteArray) = B := ⟨_, rfl⟩
  have HP2 : Hid (P2.data.toList = p2) := Lib.hid (by rw [← hP2])
  obtain ⟨P3, hP3⟩ : ∃ B : ByteArray, (⟨p3.toArray⟩ : ByteArray) = B := ⟨_, rfl⟩
  have HP3 : Hid (P3.data.toList = p3) := Lib.hid (by rw [← hP3])
  obtain ⟨P4, hP4⟩ : ∃ B : ByteArray, (⟨p4.toArray⟩ : ByteArray) = B := ⟨_, rfl⟩
  have HP4 : Hid (P4.data.toList = p4) := Lib.hid (by rw [← hP4])
  obtain ⟨P5, hP5⟩ : ∃ B : ByteArray, (⟨p5.toArray⟩ : ByteArray) = B := ⟨_, rfl⟩
  have HP5 : Hid (P5.data.toList = p5) := Lib.hid (by rw [← hP5])
  obtain ⟨P6, hP6⟩ : ∃ B : ByteArray, (⟨p6.toArray⟩ : ByteArray) = B := ⟨_, rfl⟩
  have HP6 : Hid (P6.data.toList = p6) := Lib.hid (by rw [← hP6])
  obtain ⟨P7, hP7⟩ : ∃ B : ByteArray, (⟨p7.toArray⟩ : ByteArray) = B := ⟨_, rfl⟩
  have HP7 : Hid (P7.data.toList = p7) := Lib.hid (by rw [← hP7])
  obtain ⟨P8, hP8⟩ : ∃ B : ByteArray, (⟨p8.toArray⟩ : ByteArray) = B := ⟨_, rfl⟩
  have HP8 : Hid (P8.data.toList = p8) := Lib.hid (by rw [← hP8])
  have sP0 : P0.size = 2 := by rw [← size_len, HP0.out]; exact hg.l0
  have sP1 : P1.size = 1 := by rw [← size_len, HP1.out]; exact hg.l1
  have sP2 : P2.size = 1 := by rw [← size_len, HP2.out]; exact hg.l2
  have sP3 : P3.size = 4 := by rw [← size_len, HP3.out]; exact hg.l3
  have sP4 : P4.size = 4 := by rw [← size_len, HP4.out]; exact hg.l4
  have sP5 : P5.size = 4 := by rw [← size_len, HP5.out]; exact hg.l5
  have sP6 : P6.size = 2 := by rw [← size_len, HP6.out]; exact hg.l6
  have sP7 : P7.size ≤ 255 := by
    obtain ⟨ls, hl⟩ := hg.n7
    rw [← size_len, HP7.out]; exact hl.2.2
  have HSZ : Hid (P0.size ≤ 4 ∧ P1.size ≤ 4 ∧ P2.size ≤ 4 ∧ P3.size ≤ 4 ∧ P4.size ≤ 4 ∧ P5.size ≤ 4 ∧ P6.size ≤ 4) := Lib.hid (by omega)
  have CFM := Lib.hid (fun wx => rform.rform_46 wx)
  have CPT := Lib.hid (fun wx => parts46 hg wx)
  obtain ⟨FB, hFB⟩ : ∃ B : ByteArray, (⟨([107, 49, 49, 52, 52, 52, 50, 110, 98] : Bs).toArray⟩ : ByteArray) = B := ⟨_, rfl⟩
  unfold rform.FormIs at CFM
  rw [hFB] at CFM CPT
  have x4 := (signSet.cells5 HK3.out).2.2.2.2.1
  have hS0 : w3.drew.cell? ⟨X, 4, none⟩ = some (.string sg.d) ∧ Below w3.heap.size w3 w3.drew := ⟨x4, (Below.refl _ _).drew⟩
  clear hg hce hFB sP0 sP1 sP2 sP3 sP4 sP5 sP6 x4
  clear hP0 hP1 hP2 hP3 hP4 hP5 hP6 hP7 hP8
  trace "4"
  go_upto_region 3 with fail
  go_region_held3 (fun w' => w'.cell? ⟨X, 4, none⟩ = some (.string sg.d) ∧ Below w3.heap.size w3 w') (first | assumption | (refine ⟨?_, ?_⟩ <;> assumption))
    (first
      | (go_at_call 84; refine (CFM.out _).mono ?_; rintro e w' ⟨rfl, rfl⟩)
      | (go_at_call 83; refine (CPT.out _).mono ?_; rintro e w' ⟨⟨a9, c9, rfl, hrd9⟩, hBz⟩; have hSz := k1 (by assumption) hBz; clear hBz))
  trace "5"
  obtain ⟨w4, hw4⟩ : ∃ w4, w' = w4 := ⟨_, rfl⟩
  rw [hw4] at hSz hrd9 ⊢
  have hB4 := hSz.2
  obtain ⟨pg, po, hr8⟩ := Rd8.of (P0 := P0) (P1 := P1) (P2 := P2) (P3 := P3) (P4 := P4) (P5 := P5) (P6 := P6) (P7 := P7) hrd9 (by rw [HP0.out, HP1.out, HP2.out, HP3.out, HP4.out, HP5.out, HP6.out, HP7.out]; rfl)
  have hc8 : w4.cell? ⟨pg, po + 8, none⟩ = some (.string P8) := by
    obtain ⟨g8, o8, e8, _, _, c8⟩ := hrd9 8 p8 rfl
    rw [hr8.at_] at e8
    cases e8
    rw [c8, ← HP8.out]; rfl
  have hat := hr8.at_
  subst hat
  have HK4 := Lib.hid ((hB4.block X (Array.getElem?_eq_some_iff.1 HK3.out).1).trans HK3.out)
  have HB4 := Lib.hid (HB3.out.trans (hB4.mono HB3.out.size))
  have HR8 := Lib.hid hr8; have HC8 := Lib.hid hc8
  clear hSz hS0 hB4 hw4 hrd9 hr8 hc8 CFM CPT
  obtain ⟨r0, r1, r2, r3, r4⟩ := HCL.out.below HB4.out HG1.out
  have ir : ∀ w : World, Sem.run Tryz.prog (Instr.indexAt 22 (.slice (some ⟨g1, o1, none⟩) n c) (.int .i64 0)) w = .ok (.pointer (some ⟨g1, o1, none⟩)) w := fun w => idxR g1 o1 n c hpos w
  have hb5 := (Below.refl w4.heap.size w4).alloc (Nat.le_refl _) (.cells #[.string h.o, .int .i64 h.t, .int .i64 h.c, .int .i64 h.l, .string h.d] 34)
  have hz5 := heap_alloc_new w4 (.cells #[.string h.o, .int .i64 h.t, .int .i64 h.c, .int .i64 h.l, .string h.d] 34)
  obtain ⟨Z, hZ⟩ : ∃ Z, w4.heap.size = Z := ⟨_, rfl⟩
  obtain ⟨w5, hw5⟩ : ∃ w5, w4.alloc (.cells #[.string h.o, .int .i64 h.t, .int .i64 h.c, .int .i64 h.l, .string h.d] 34) = w5 := ⟨_, rfl⟩
  rw [hw5] at hb5 hz5
  rw [hZ] at hz5
  have HBV5 : Hid (Bw X Z pg po sg h P0 P1 P2 P3 P4 P5 P6 P7 P8 w5) := Lib.hid ⟨(hb5.block X (Array.getElem?_eq_some_iff.1 HK4.out).1).trans HK4.out, hz5, signSet.Rd8.below HR8.out hb5, ck hb5 HC8.out⟩
  have HB5 := Lib.hid (HB4.out.trans (hb5.mono HB4.out.size))
  have HZW := Lib.hid hZ; have HW5 := Lib.hid hw5
  clear hb5 hz5 hZ hw5 HC8

  have i0 : ∀ w : World, Sem.run Tryz.prog (Instr.indexAt 47 (.slice (some ⟨pg, po, none⟩) 9 c9) (.int .i64 0)) w = .ok (.pointer (some ⟨pg, po, none⟩)) w := fun w => idxS pg po 9 c9 0 (by decide) w
  have i1 : ∀ w : World, Sem.run Tryz.prog (Instr.indexAt 47 (.slice (some ⟨pg, po, none⟩) 9 c9) (.int .i64 1)) w = .ok (.pointer (some ⟨pg, po + 1, none⟩)) w := fun w => idxS pg po 9 c9 1 (by decide) w
  have i2 : ∀ w : World, Sem.run Tryz.prog (Instr.indexAt 47 (.slice (some ⟨pg, po, none⟩) 9 c9) (.int .i64 2)) w = .ok (.pointer (some ⟨pg, po + 2, none⟩)) w := fun w => idxS pg po 9 c9 2 (by decide) w
  have i3 : ∀ w : World, Sem.run Tryz.prog (Instr.indexAt 47 (.slice (some ⟨pg, po, none⟩) 9 c9) (.int .i64 3)) w = .ok (.pointer (some ⟨pg, po + 3, none⟩)) w := fun w => idxS pg po 9 c9 3 (by decide) w
  have i4 : ∀ w : World, Sem.run Tryz.prog (Instr.indexAt 47 (.slice (some ⟨pg, po, none⟩) 9 c9) (.int .i64 4)) w = .ok (.pointer (some ⟨pg, po + 4, none⟩)) w := fun w => idxS pg po 9 c9 4 (by decide) w
  have i5 : ∀ w : World, Sem.run Tryz.prog (Instr.indexAt 47 (.slice (some ⟨pg, po, none⟩) 9 c9) (.int .i64 5)) w = .ok (.pointer (some ⟨pg, po + 5, none⟩)) w := fun w => idxS pg po 9 c9 5 (by decide) w
  have i6 : ∀ w : World, Sem.run Tryz.prog (Instr.indexAt 47 (.slice (some ⟨pg, po, none⟩) 9 c9) (.int .i64 6)) w = .ok (.pointer (some ⟨pg, po + 6, none⟩)) w := fun w => idxS pg po 9 c9 6 (by decide) w
  have i7 : ∀ w : World, Sem.run Tryz.prog (Instr.indexAt 47 (.slice (some ⟨pg, po, none⟩) 9 c9) (.int .i64 7)) w = .ok (.pointer (some ⟨pg, po + 7, none⟩)) w := fun w => idxS pg po 9 c9 7 (by decide) w
  have i8 : ∀ w : World, Sem.run Tryz.prog (Instr.indexAt 47 (.slice (some ⟨pg, po, none⟩) 9 c9) (.int .i64 8)) w = .ok (.pointer (some ⟨pg, po + 8, none⟩)) w := fun w => idxS pg po 9 c9 8 (by decide) w
  have CV0 := Lib.hid (fun wx => rvalue_any P0 wx HSZ.out.1)
  obtain ⟨A, hA⟩ : ∃ A, valL p0 0 = A := ⟨_, rfl⟩
  rw [HP0.out, hA] at CV0
  obtain ⟨ht, hht⟩ : ∃ z, h.t = z := ⟨_, rfl⟩
  have HA := Lib.hid hA; have HHT := Lib.hid hht
  have q0 := HBV5.out.r.c.1
  have z1 : w5.cell? ⟨Z, 1, none⟩ = some (.int .i64 ht) := by rw [← hht]; exact HBV5.out.ht
  have hS0 : w5.drew.cell? ⟨pg, po, none⟩ = some (.string P0) ∧ w5.drew.cell? ⟨Z, 1, none⟩ = some (.int .i64 ht) ∧ Below w5.heap.size w5 w5.drew := ⟨q0, z1, (Below.refl _ _).drew⟩
  clear hA hht q0 z1
  trace "6"
  go_upto_region 5 with fail
  rw [HW5.out]
  try rw [HZW.out]
  clear r0 r1 r2 r3 r4 ir
  by_cases hc : ¬ ((A : Int) = ht)
  · have e1 : ((A : Int) != ht) = true := bne_iff_ne.2 hc
    have e2 : ((A : Int) == ht) = false := beq_eq_false_iff_ne.2 hc
    have HR1 : Hid (RR = 6) := Lib.hid (HVC.out.trans (by unfold verC; rw [if_pos (by rw [HA.out, HHT.out]; exact hc)]))
    go_region_held3 (fun w' => w'.cell? ⟨pg, po, none⟩ = some (.string P0) ∧ w'.cell? ⟨Z, 1, none⟩ = some (.int .i64 ht) ∧ Below w5.heap.size w5 w') (first | assumption | (refine ⟨?_, ?_, ?_⟩ <;> assumption))
      (first | (go_at_call 85; refine (CV0.out _).mono ?_; rintro e w' ⟨rfl, rfl⟩))
    have HBN : Hid (Below w.heap.size w w5.drew) := Lib.hid HB5.out.drew
    trace "no"
    go_wp2_with fail
    go_ret
    exact ⟨by rw [HR1.out]; rfl, HBN.out⟩
  have hc0 : (A : Int) = ht := Classical.not_not.1 hc
  have HC0 : Hid (((valL p0 0 : Nat) : Int) = h.t) := Lib.hid (by rw [HA.out, HHT.out]; exact hc0)
  have e1 : ((A : Int) != ht) = false := by rw [hc0]; simp
  have e2 : ((A : Int) == ht) = true := by rw [hc0]; simp
  have HTT : Hid (h.t = (A : Int)) := Lib.hid (by rw [HHT.out]; exact hc0.symm)
  clear hc hc0
  go_region_held3 (fun w' => w'.cell? ⟨pg, po, none⟩ = some (.string P0) ∧ w'.cell? ⟨Z, 1, none⟩ = some (.int .i64 ht) ∧ Below w5.heap.size w5 w') (first | assumption | (refine ⟨?_, ?_, ?_⟩ <;> assumption))
    (first | (go_at_call 85; refine (CV0.out _).mono ?_; rintro e w' ⟨rfl, rfl⟩))
  trace "7"
  obtain ⟨w6, hw6⟩ : ∃ z, w5.drew = z := ⟨_, rfl⟩
  have hB6 : Below w5.heap.size w5 w6 := by rw [← hw6]; exact (Below.refl _ _).drew
  rw [hw6]
  have HBV6 := Lib.hid (HBV5.out.step hB6)
  have HB6 := Lib.hid (HB5.out.trans (hB6.mono HB5.out.size))
  clear hB6
  clear hw6 hS0 e1 e2 CV0
  have hoh := HO.out h (List.mem_of_getElem? H0.out)
  have CE1 := Lib.hid (fun wx => refA.equal_any sg.o h.o wx HSG.out.o hoh.o)
  obtain ⟨E1, hE1⟩ : ∃ E1, equalS sg.o.data.toList h.o.data.toList = E1 := ⟨_, rfl⟩
  rw [hE1] at CE1
  have HE1 := Lib.hid hE1
  have CW := Lib.hid (fun wx => refB.within_any h.o P7 wx hoh.o (by omega))
  rw [HP7.out] at CW
  obtain ⟨WI, hWI⟩ : ∃ WI, withinS h.o.data.toList p7 = WI := ⟨_, rfl⟩
  rw [hWI] at CW
  have HWI := Lib.hid hWI
  have CE2 := Lib.hid (fun wx => refA.equal_any ow P7 wx how (by omega))
  rw [HP7.out] at CE2
  obtain ⟨E2, hE2⟩ : ∃ E2, equalS ow.data.toList p7 = E2 := ⟨_, rfl⟩
  rw [hE2] at CE2
  have HE2 := Lib.hid hE2
  have x0 := HBV6.out.sgo
  have z0 := HBV6.out.ho
  have q7 := HBV6.out.r.c.2.2.2.2.2.2.2
  clear hE1 hWI hE2
  go_upto_region 7 with fail
  refine heldG.regionG (fun w' => w'.cell? ⟨X, 0, none⟩ = some (.string sg.o) ∧ w'.cell? ⟨Z, 0, none⟩ = some (.string h.o) ∧ w'.cell? ⟨pg, po + 7, none⟩ = some (.string P7) ∧ Below w6.heap.size w6 w') (fun _ => false) (by kernel_rfl) ?_
  have hS0 := k3 (W := w6) ⟨x0, z0, q7, Below.refl _ _⟩ (Below.refl _ _).drew
  clear x0 z0 q7
  obtain ⟨w6d, hw6⟩ : ∃ z, w6.drew = z := ⟨_, rfl⟩
  rw [hw6] at hS0 ⊢
  clear hw6
  trace "8"
  cases hb : E1 with
  | false =>
    have HR1 : Hid (RR = 5) := Lib.hid (HVC.out.trans (by unfold verC; rw [if_neg (fun hh => hh HC0.out), if_pos (by rw [HE1.out, hb])]))
    subst hb
    refine isSet.takeD (i := 0) (d := 46) (v := .pointer (some ⟨X, 0, none⟩)) rfl rfl (by kernel_rfl) (by kernel_rfl) (by kernel_rfl) (fun _ _ _ h => h) (by kernel_rfl) rfl (Or.inl ⟨by kernel_rfl, ?_⟩) hS0 ?_
    · intro wz hSw
      obtain ⟨s0, s1, s2, s3⟩ := hSw
      go_simp
    try simp only [Act.put, List.setIfInBounds_toArray, List.set_cons_zero, List.set_cons_succ]
    refine isSet.takeD (i := 1) (d := 47) (v := .string sg.o) rfl rfl (by kernel_rfl) (by kernel_rfl) (by kernel_rfl) (fun _ _ _ h => h) (by kernel_rfl) rfl (Or.inl ⟨by kernel_rfl, ?_⟩) hS0 ?_
    · intro wz hSw
      obtain ⟨s0, s1, s2, s3⟩ := hSw
      go_simp
    try simp only [Act.put, List.setIfInBounds_toArray, List.set_cons_zero, List.set_cons_succ]
    refine isSet.takeD (i := 2) (d := 48) (v := .pointer (some ⟨Z, 0, none⟩)) rfl rfl (by kernel_rfl) (by kernel_rfl) (by kernel_rfl) (fun _ _ _ h => h) (by kernel_rfl) rfl (Or.inl ⟨by kernel_rfl, ?_⟩) hS0 ?_
    · intro wz hSw
      obtain ⟨s0, s1, s2, s3⟩ := hSw
      go_simp
    try simp only [Act.put, List.setIfInBounds_toArray, List.set_cons_zero, List.set_cons_succ]
    refine isSet.takeD (i := 3) (d := 49) (v := .string h.o) rfl rfl (by kernel_rfl) (by kernel_rfl) (by kernel_rfl) (fun _ _ _ h => h) (by kernel_rfl) rfl (Or.inl ⟨by kernel_rfl, ?_⟩) hS0 ?_
    · intro wz hSw
      obtain ⟨s0, s1, s2, s3⟩ := hSw
      go_simp
    try simp only [Act.put, List.setIfInBounds_toArray, List.set_cons_zero, List.set_cons_succ]
    refine heldG.readyG (rs := [4]) (by kernel_rfl) (by simp) ?_
    refine heldG.AllG.cons rfl (fun KK hKK => ?_) heldG.AllG.nil
    go_simp
    refine (CE1.out _).mono ?_
    rintro en wq4 ⟨rfl, hBz⟩
    have hS1 := k3 hS0 hBz
    dsimp only
    refine hKK.out _ _ (fun _ => hS1) ?_; clear hKK KK hBz
    try simp only [Act.put, List.setIfInBounds_toArray, List.set_cons_zero, List.set_cons_succ]
    refine isSet.takeD (i := 5) (d := 51) (v := .bool true) rfl rfl (by kernel_rfl) (by kernel_rfl) (by kernel_rfl) (fun _ _ _ h => h) (by kernel_rfl) rfl (Or.inl ⟨by kernel_rfl, ?_⟩) hS1 ?_
    · intro wz hSw
      obtain ⟨s0, s1, s2, s3⟩ := hSw
      go_simp
    try simp only [Act.put, List.setIfInBounds_toArray, List.set_cons_zero, List.set_cons_succ]
    refine isSet.takeD (i := 6) (d := 52) (v := .bool true) rfl rfl (by kernel_rfl) (by kernel_rfl) (by kernel_rfl) (fun _ _ _ h => h) (by kernel_rfl) rfl (Or.inl ⟨by kernel_rfl, ?_⟩) hS1 ?_
    · intro wz hSw
      obtain ⟨s0, s1, s2, s3⟩ := hSw
      go_simp
    try simp only [Act.put, List.setIfInBounds_toArray, List.set_cons_zero, List.set_cons_succ]
    refine isSet.takeD (i := 7) (d := 53) (v := undef) rfl rfl (by kernel_rfl) (by kernel_rfl) (by kernel_rfl) (fun _ _ _ h => h) (by kernel_rfl) rfl (Or.inr ⟨by kernel_rfl, rfl⟩) hS1 ?_
    try simp only [Act.put, List.setIfInBounds_toArray, List.set_cons_zero, List.set_cons_succ]
    refine isSet.takeD (i := 8) (d := 54) (v := undef) rfl rfl (by kernel_rfl) (by kernel_rfl) (by kernel_rfl) (fun _ _ _ h => h) (by kernel_rfl) rfl (Or.inr ⟨by kernel_rfl, rfl⟩) hS1 ?_
    try simp only [Act.put, List.setIfInBounds_toArray, List.set_cons_zero, List.set_cons_succ]
    refine isSet.takeD (i := 9) (d := 55) (v := undef) rfl rfl (by kernel_rfl) (by kernel_rfl) (by kernel_rfl) (fun _ _ _ h => h) (by kernel_rfl) rfl (Or.inr ⟨by kernel_rfl, rfl⟩) hS1 ?_
    try simp only [Act.put, List.setIfInBounds_toArray, List.set_cons_zero, List.set_cons_succ]
    refine isSet.takeD (i := 10) (d := 56) (v := undef) rfl rfl (by kernel_rfl) (by kernel_rfl) (by kernel_rfl) (fun _ _ _ h => h) (by kernel_rfl) rfl (Or.inr ⟨by kernel_rfl, rfl⟩) hS1 ?_
    try simp only [Act.put, List.setIfInBounds_toArray, List.set_cons_zero, List.set_cons_succ]
    refine isSet.takeD (i := 11) (d := 57) (v := undef) rfl rfl (by kernel_rfl) (by kernel_rfl) (by kernel_rfl) (fun _ _ _ h => h) (by kernel_rfl) rfl (Or.inr ⟨by kernel_rfl, rfl⟩) hS1 ?_
    try simp only [Act.put, List.setIfInBounds_toArray, List.set_cons_zero, List.set_cons_succ]
    refine isSet.takeD (i := 12) (d := 58) (v := undef) rfl rfl (by kernel_rfl) (by kernel_rfl) (by kernel_rfl) (fun _ _ _ h => h) (by kernel_rfl) rfl (Or.inr ⟨by kernel_rfl, rfl⟩) hS1 ?_
    try simp only [Act.put, List.setIfInBounds_toArray, List.set_cons_zero, List.set_cons_succ]
    refine isSet.takeD (i := 13) (d := 59) (v := undef) rfl rfl (by kernel_rfl) (by kernel_rfl) (by kernel_rfl) (fun _ _ _ h => h) (by kernel_rfl) rfl (Or.inr ⟨by kernel_rfl, rfl⟩) hS1 ?_
    try simp only [Act.put, List.setIfInBounds_toArray, List.set_cons_zero, List.set_cons_succ]
    refine isSet.takeD (i := 14) (d := 60) (v := .bool true) rfl rfl (by kernel_rfl) (by kernel_rfl) (by kernel_rfl) (fun _ _ _ h => h) (by kernel_rfl) rfl (Or.inl ⟨by kernel_rfl, ?_⟩) hS1 ?_
    · intro wz hSw
      obtain ⟨s0, s1, s2, s3⟩ := hSw
      go_simp
    try simp only [Act.put, List.setIfInBounds_toArray, List.set_cons_zero, List.set_cons_succ]
    have hSF := hS1
    refine heldG.doneG (by kernel_rfl) ?_ _
    have HBN := Lib.hid (HB6.out.trans (hSF.2.2.2.mono HB6.out.size))
    trace "no"
    go_wp2_with fail
    go_ret
    exact ⟨by rw [HR1.out]; rfl, HBN.out⟩
  | true =>
  have HC1 : Hid (equalS sg.o.data.toList h.o.data.toList = true) := Lib.hid (by rw [HE1.out, hb])
  subst hb
  refine isSet.takeD (i := 0) (d := 46) (v := .pointer (some ⟨X, 0, none⟩)) rfl rfl (by kernel_rfl) (by kernel_rfl) (by kernel_rfl) (fun _ _ _ h => h) (by kernel_rfl) rfl (Or.inl ⟨by kernel_rfl, ?_⟩) hS0 ?_
  · intro wz hSw
    obtain ⟨s0, s1, s2, s3⟩ := hSw
    go_simp
  try simp only [Act.put, List.setIfInBounds_toArray, List.set_cons_zero, List.set_cons_succ]
  refine isSet.takeD (i := 1) (d := 47) (v := .string sg.o) rfl rfl (by kernel_rfl) (by kernel_rfl) (by kernel_rfl) (fun _ _ _ h => h) (by kernel_rfl) rfl (Or.inl ⟨by kernel_rfl, ?_⟩) hS0 ?_
  · intro wz hSw
    obtain ⟨s0, s1, s2, s3⟩ := hSw
    go_simp
  try simp only [Act.put, List.setIfInBounds_toArray, List.set_cons_zero, List.set_cons_succ]
  refine isSet.takeD (i := 2) (d := 48) (v := .pointer (some ⟨Z, 0, none⟩)) rfl rfl (by kernel_rfl) (by kernel_rfl) (by kernel_rfl) (fun _ _ _ h => h) (by kernel_rfl) rfl (Or.inl ⟨by kernel_rfl, ?_⟩) hS0 ?_
  · intro wz hSw
    obtain ⟨s0, s1, s2, s3⟩ := hSw
    go_simp
  try simp only [Act.put, List.setIfInBounds_toArray, List.set_cons_zero, List.set_cons_succ]
  refine isSet.takeD (i := 3) (d := 49) (v := .string h.o) rfl rfl (by kernel_rfl) (by kernel_rfl) (by kernel_rfl) (fun _ _ _ h => h) (by kernel_rfl) rfl (Or.inl ⟨by kernel_rfl, ?_⟩) hS0 ?_
  · intro wz hSw
    obtain ⟨s0, s1, s2, s3⟩ := hSw
    go_simp
  try simp only [Act.put, List.setIfInBounds_toArray, List.set_cons_zero, List.set_cons_succ]
  refine heldG.readyG (rs := [4]) (by kernel_rfl) (by simp) ?_
  refine heldG.AllG.cons rfl (fun KK hKK => ?_) heldG.AllG.nil
  go_simp
  refine (CE1.out _).mono ?_
  rintro en wq4 ⟨rfl, hBz⟩
  have hS1 := k3 hS0 hBz
  dsimp only
  refine hKK.out _ _ (fun _ => hS1) ?_; clear hKK KK hBz
  try simp only [Act.put, List.setIfInBounds_toArray, List.set_cons_zero, List.set_cons_succ]
  refine isSet.takeD (i := 5) (d := 51) (v := .bool false) rfl rfl (by kernel_rfl) (by kernel_rfl) (by kernel_rfl) (fun _ _ _ h => h) (by kernel_rfl) rfl (Or.inl ⟨by kernel_rfl, ?_⟩) hS1 ?_
  · intro wz hSw
    obtain ⟨s0, s1, s2, s3⟩ := hSw
    go_simp
  try simp only [Act.put, List.setIfInBounds_toArray, List.set_cons_zero, List.set_cons_succ]
  refine isSet.takeD (i := 6) (d := 52) (v := .bool false) rfl rfl (by kernel_rfl) (by kernel_rfl) (by kernel_rfl) (fun _ _ _ h => h) (by kernel_rfl) rfl (Or.inl ⟨by kernel_rfl, ?_⟩) hS1 ?_
  · intro wz hSw
    obtain ⟨s0, s1, s2, s3⟩ := hSw
    go_simp
  try simp only [Act.put, List.setIfInBounds_toArray, List.set_cons_zero, List.set_cons_succ]
  refine isSet.takeD (i := 7) (d := 53) (v := .pointer (some ⟨Z, 0, none⟩)) rfl rfl (by kernel_rfl) (by kernel_rfl) (by kernel_rfl) (fun _ _ _ h => h) (by kernel_rfl) rfl (Or.inl ⟨by kernel_rfl, ?_⟩) hS1 ?_
  · intro wz hSw
    obtain ⟨s0, s1, s2, s3⟩ := hSw
    go_simp
  try simp only [Act.put, List.setIfInBounds_toArray, List.set_cons_zero, List.set_cons_succ]
  refine isSet.takeD (i := 8) (d := 54) (v := .string h.o) rfl rfl (by kernel_rfl) (by kernel_rfl) (by kernel_rfl) (fun _ _ _ h => h) (by kernel_rfl) rfl (Or.inl ⟨by kernel_rfl, ?_⟩) hS1 ?_
  · intro wz hSw
    obtain ⟨s0, s1, s2, s3⟩ := hSw
    go_simp
  try simp only [Act.put, List.setIfInBounds_toArray, List.set_cons_zero, List.set_cons_succ]
  refine isSet.takeD (i := 9) (d := 55) (v := .slice (some ⟨pg, po, none⟩) 9 c9) rfl rfl (by kernel_rfl) (by kernel_rfl) (by kernel_rfl) (fun _ _ _ h => h) (by kernel_rfl) rfl (Or.inl ⟨by kernel_rfl, ?_⟩) hS1 ?_
  · intro wz hSw
    obtain ⟨s0, s1, s2, s3⟩ := hSw
    go_simp
  try simp only [Act.put, List.setIfInBounds_toArray, List.set_cons_zero, List.set_cons_succ]
  refine isSet.takeD (i := 10) (d := 56) (v := .pointer (some ⟨pg, po + 7, none⟩)) rfl rfl (by kernel_rfl) (by kernel_rfl) (by kernel_rfl) (fun _ _ _ h => h) (by kernel_rfl) rfl (Or.inl ⟨by kernel_rfl, ?_⟩) hS1 ?_
  · intro wz hSw
    obtain ⟨s0, s1, s2, s3⟩ := hSw
    go_simp
  try simp only [Act.put, List.setIfInBounds_toArray, List.set_cons_zero, List.set_cons_succ]
  refine isSet.takeD (i := 11) (d := 57) (v := .string P7) rfl rfl (by kernel_rfl) (by kernel_rfl) (by kernel_rfl) (fun _ _ _ h => h) (by kernel_rfl) rfl (Or.inl ⟨by kernel_rfl, ?_⟩) hS1 ?_
  · intro wz hSw
    obtain ⟨s0, s1, s2, s3⟩ := hSw
    go_simp
  try simp only [Act.put, List.setIfInBounds_toArray, List.set_cons_zero, List.set_cons_succ]
  refine heldG.readyG (rs := [12]) (by kernel_rfl) (by simp) ?_
  refine heldG.AllG.cons rfl (fun KK hKK => ?_) heldG.AllG.nil
  go_simp
  refine (CW.out _).mono ?_
  rintro en wq12 ⟨rfl, hBz⟩
  have hS2 := k3 hS1 hBz
  dsimp only
  refine hKK.out _ _ (fun _ => hS2) ?_; clear hKK KK hBz
  try simp only [Act.put, List.setIfInBounds_toArray, List.set_cons_zero, List.set_cons_succ]
  refine isSet.takeD (i := 13) (d := 59) (v := .bool !WI) rfl rfl (by kernel_rfl) (by kernel_rfl) (by kernel_rfl) (fun _ _ _ h => h) (by kernel_rfl) rfl (Or.inl ⟨by kernel_rfl, ?_⟩) hS2 ?_
  · intro wz hSw
    obtain ⟨s0, s1, s2, s3⟩ := hSw
    go_simp
  try simp only [Act.put, List.setIfInBounds_toArray, List.set_cons_zero, List.set_cons_succ]
  refine isSet.takeD (i := 14) (d := 60) (v := .bool !WI) rfl rfl (by kernel_rfl) (by kernel_rfl) (by kernel_rfl) (fun _ _ _ h => h) (by kernel_rfl) rfl (Or.inl ⟨by kernel_rfl, ?_⟩) hS2 ?_
  · intro wz hSw
    obtain ⟨s0, s1, s2, s3⟩ := hSw
    go_simp
  try simp only [Act.put, List.setIfInBounds_toArray, List.set_cons_zero, List.set_cons_succ]
  have hSF := hS2
  refine heldG.doneG (by kernel_rfl) ?_ _
  obtain ⟨w7, hw7⟩ : ∃ z, wq12 = z := ⟨_, rfl⟩
  rw [hw7] at hSF ⊢
  have hB7 := hSF.2.2.2
  have HBV7 := Lib.hid (HBV6.out.step hB7)
  have HB7 := Lib.hid (HB6.out.trans (hB7.mono HB6.out.size))
  clear hB7
  clear hSF hS0 hS1 hS2 hw7
  cases hb : WI with
  | false =>
    have HR1 : Hid (RR = 5) := Lib.hid (HVC.out.trans (by unfold verC; rw [if_neg (fun hh => hh HC0.out), if_neg (by rw [HC1.out]; decide), if_pos (by rw [HWI.out, hb])]))
    subst hb
    trace "no"
    go_wp2_with fail
    go_ret
    exact ⟨by rw [HR1.out]; rfl, HB7.out⟩
  | true =>
  have HC2 : Hid (withinS h.o.data.toList p7 = true) := Lib.hid (by rw [HWI.out, hb])
  subst hb
  have q7 := HBV7.out.r.c.2.2.2.2.2.2.2
  trace "9"
  go_wp2_with fail
  refine (CE2.out _).mono ?_
  rintro e w8 ⟨rfl, hB8⟩
  have HBV8 := Lib.hid (HBV7.out.step hB8)
  have HB8 := Lib.hid (HB7.out.trans (hB8.mono HB7.out.size))
  clear hB8
  clear q7 CE1 CE2 CW
  cases hb : E2 with
  | false =>
    have HR1 : Hid (RR = 1) := Lib.hid (HVC.out.trans (by unfold verC; rw [if_neg (fun hh => hh HC0.out), if_neg (by rw [HC1.out]; decide), if_neg (by rw [HC2.out]; decide), if_pos (by rw [HE2.out, hb])]))
    subst hb
    trace "no"
    go_wp2_with fail
    go_ret
    exact ⟨by rw [HR1.out]; rfl, HB8.out⟩
  | true =>
  have HC3 : Hid (equalS ow.data.toList p7 = true) := Lib.hid (by rw [HE2.out, hb])
  subst hb
  have CIK := Lib.hid (fun wx => ds.isKey_any kd wx hkd)
  obtain ⟨OP, hOP⟩ : ∃ OP, isKeyB kd.data.toList = OP := ⟨_, rfl⟩
  rw [hOP] at CIK
  have HOP := Lib.hid hOP
  clear hOP
  trace "10"
  go_wp2_with fail
  refine (CIK.out _).mono ?_
  rintro e w9 ⟨rfl, hB9⟩
  have HBV9 := Lib.hid (HBV8.out.step hB9)
  have HB9 := Lib.hid (HB8.out.trans (hB9.mono HB8.out.size))
  clear hB9
  clear CIK
  cases hb : OP with
  | false =>
    have HR1 : Hid (RR = 24) := Lib.hid (HVC.out.trans (by unfold verC; rw [if_neg (fun hh => hh HC0.out), if_neg (by rw [HC1.out]; decide), if_neg (by rw [HC2.out]; decide), if_neg (by rw [HC3.out]; decide), if_pos (by rw [HOP.out, hb])]))
    subst hb
    trace "no"
    go_wp2_with fail
    go_ret
    exact ⟨by rw [HR1.out]; rfl, HB9.out⟩
  | true =>
  have HC4 : Hid (isKeyB kd.data.toList = true) := Lib.hid (by rw [HOP.out, hb])
  subst hb
  obtain ⟨hk12, hkm1, hkm2, hke⟩ := key_facts HC4.out
  obtain ⟨M, hM⟩ : ∃ M, kM kd.data.toList = M := ⟨_, rfl⟩
  obtain ⟨E, hE⟩ : ∃ E, kE kd.data.toList = E := ⟨_, rfl⟩
  have HM := Lib.hid hM; have HE := Lib.hid hE
  rw [hM] at hkm1 hkm2
  rw [hE] at hke
  have q1 := HBV9.out.r.c.2.1
  have hP1l : P1.toList = p1 := by rw [Lib.toList_data]; exact HP1.out
  clear hM hE
  trace "11"
  by_cases hc : ¬ p1 = [253]
  · have e1 : (P1.toList == [253]) = false := by rw [hP1l]; simpa using hc
    have e2 : (P1.toList != [253]) = true := by rw [hP1l]; simpa using hc
    have HR1 : Hid (RR = 24) := Lib.hid (HVC.out.trans (by unfold verC; rw [if_neg (fun hh => hh HC0.out), if_neg (by rw [HC1.out]; decide), if_neg (by rw [HC2.out]; decide), if_neg (by rw [HC3.out]; decide), if_neg (by rw [HC4.out]; decide), if_pos hc]))
    clear hP1l hc
    trace "no"
    go_wp2_with fail
    go_ret
    exact ⟨by rw [HR1.out]; rfl, HB9.out⟩
  have hc : p1 = [253] := Classical.not_not.1 hc
  have HC5 : Hid (p1 = [253]) := Lib.hid hc
  have e1 : (P1.toList == [253]) = true := by rw [hP1l, hc]; rfl
  have e2 : (P1.toList != [253]) = false := by rw [hP1l, hc]; rfl
  have CV6 := Lib.hid (fun wx => rvalue_any P6 wx HSZ.out.2.2.2.2.2.2)
  obtain ⟨G, hG⟩ : ∃ G, valL p6 0 = G := ⟨_, rfl⟩
  rw [HP6.out, hG] at CV6
  have CTK := Lib.hid (fun wx => tag.rtag_any kd wx hkd)
  obtain ⟨TG, hTG⟩ : ∃ TG, tagS kd.data.toList = TG := ⟨_, rfl⟩
  rw [hTG] at CTK
  have HG := Lib.hid hG; have HTG := Lib.hid hTG
  have q6 := HBV9.out.r.c.2.2.2.2.2.2.1
  clear hP1l hc hG hTG
  trace "12"
  go_wp2_with fail
  refine (CV6.out _).mono ?_
  rintro e w10 ⟨rfl, rfl⟩
  go_wp2_with fail
  refine (CTK.out _).mono ?_
  rintro e w10 ⟨rfl, rfl⟩
  clear e1 e2 q1 q6 CV6 CTK
  by_cases hc : ¬ G = TG
  · have e1 : ((G : Int) != (TG : Int)) = true := bne_iff_ne.2 (fun e => hc (by omega))
    have HR1 : Hid (RR = 24) := Lib.hid (HVC.out.trans (by unfold verC; rw [if_neg (fun hh => hh HC0.out), if_neg (by rw [HC1.out]; decide), if_neg (by rw [HC2.out]; decide), if_neg (by rw [HC3.out]; decide), if_neg (by rw [HC4.out]; decide), if_neg (fun hh => hh HC5.out), if_pos (by rw [HG.out, HTG.out]; exact hc)]))
    trace "no"
    go_wp2_with fail
    go_ret
    exact ⟨by rw [HR1.out]; rfl, HB9.out⟩
  have hc : G = TG := Classical.not_not.1 hc
  have HC6 : Hid (valL p6 0 = tagS kd.data.toList) := Lib.hid (by rw [HG.out, HTG.out]; exact hc)
  have e1 : ((G : Int) != (TG : Int)) = false := by rw [hc]; simp
  have CV2 := Lib.hid (fun wx => rvalue_any P2 wx HSZ.out.2.2.1)
  obtain ⟨LB, hLB⟩ : ∃ LB, valL p2 0 = LB := ⟨_, rfl⟩
  rw [HP2.out, hLB] at CV2
  have CCN := Lib.hid (fun wx => sealA.starless_any h.o wx hoh.o)
  obtain ⟨K, hK⟩ : ∃ K, lessS h.o.data.toList = K := ⟨_, rfl⟩
  rw [hK] at CCN
  have HLB := Lib.hid hLB; have HK := Lib.hid hK; have HGT := Lib.hid hc
  have q2 := HBV9.out.r.c.2.2.1
  have z0 := HBV9.out.ho
  have hS0 : w9.drew.cell? ⟨pg, po + 2, none⟩ = some (.string P2) ∧ w9.drew.cell? ⟨Z, 0, none⟩ = some (.string h.o) ∧ Below w9.heap.size w9 w9.drew := ⟨q2, z0, (Below.refl _ _).drew⟩
  clear hc hLB hK q2 z0
  trace "13"
  go_upto_region 13 with fail
  clear e1
  by_cases hc : K < (LB : Int)
  · have e1 : decide (K < (LB : Int)) = true := decide_eq_true hc
    have HR1 : Hid (RR = 3) := Lib.hid (HVC.out.trans (by unfold verC; rw [if_neg (fun hh => hh HC0.out), if_neg (by rw [HC1.out]; decide), if_neg (by rw [HC2.out]; decide), if_neg (by rw [HC3.out]; decide), if_neg (by rw [HC4.out]; decide), if_neg (fun hh => hh HC5.out), if_neg (fun hh => hh HC6.out), if_pos (by rw [HK.out, HLB.out]; exact hc)]))
    go_region_held3 (fun w' => w'.cell? ⟨pg, po + 2, none⟩ = some (.string P2) ∧ w'.cell? ⟨Z, 0, none⟩ = some (.string h.o) ∧ Below w9.heap.size w9 w') (first | assumption | (refine ⟨?_, ?_, ?_⟩ <;> assumption))
      (first
        | (go_at_call 85; refine (CV2.out _).mono ?_; rintro e w' ⟨rfl, rfl⟩)
        | (go_at_call 65; refine (CCN.out _).mono ?_; rintro e w' ⟨rfl, hBz⟩; have hSz := k2 (by assumption) hBz; clear hBz))
    have HBN := Lib.hid (HB9.out.trans (hSz.2.2.mono HB9.out.size))
    trace "no"
    go_wp2_with fail
    go_ret
    exact ⟨by rw [HR1.out]; rfl, HBN.out⟩
  have HC7 : Hid (¬ lessS h.o.data.toList < ((valL p2 0 : Nat) : Int)) := Lib.hid (by rw [HK.out, HLB.out]; exact hc)
  have e1 : decide (K < (LB : Int)) = false := decide_eq_false hc
  go_region_held3 (fun w' => w'.cell? ⟨pg, po + 2, none⟩ = some (.string P2) ∧ w'.cell? ⟨Z, 0, none⟩ = some (.string h.o) ∧ Below w9.heap.size w9 w') (first | assumption | (refine ⟨?_, ?_, ?_⟩ <;> assumption))
    (first
      | (go_at_call 85; refine (CV2.out _).mono ?_; rintro e w' ⟨rfl, rfl⟩)
      | (go_at_call 65; refine (CCN.out _).mono ?_; rintro e w' ⟨rfl, hBz⟩; have hSz := k2 (by assumption) hBz; clear hBz))
  obtain ⟨w11, hw11⟩ : ∃ z, w' = z := ⟨_, rfl⟩
  rw [hw11] at hSz ⊢
  have hB11 := hSz.2.2
  have HBV11 := Lib.hid (HBV9.out.step hB11)
  have HB11 := Lib.hid (HB9.out.trans (hB11.mono HB9.out.size))
  clear hB11
  clear hSz hS0 hw11 CV2 CCN
  have CV5 := Lib.hid (fun wx => rvalue_any P5 wx HSZ.out.2.2.2.2.2.1)
  obtain ⟨FR, hFR⟩ : ∃ z, valL p5 0 = z := ⟨_, rfl⟩
  rw [HP5.out, hFR] at CV5
  have CV4 := Lib.hid (fun wx => rvalue_any P4 wx HSZ.out.2.2.2.2.1)
  obtain ⟨UN, hUN⟩ : ∃ z, valL p4 0 = z := ⟨_, rfl⟩
  rw [HP4.out, hUN] at CV4
  have HFR := Lib.hid hFR; have HUN := Lib.hid hUN
  have q5 := HBV11.out.r.c.2.2.2.2.2.1
  have q4 := HBV11.out.r.c.2.2.2.2.1
  clear hFR hUN
  trace "14"
  go_wp2_with fail
  refine (CV5.out _).mono ?_
  rintro e w12 ⟨rfl, rfl⟩
  clear e1 hc
  by_cases hc : now < (FR : Int)
  · have e1 : decide (now < (FR : Int)) = true := decide_eq_true hc
    have HR1 : Hid (RR = 25) := Lib.hid (HVC.out.trans (by unfold verC; rw [if_neg (fun hh => hh HC0.out), if_neg (by rw [HC1.out]; decide), if_neg (by rw [HC2.out]; decide), if_neg (by rw [HC3.out]; decide), if_neg (by rw [HC4.out]; decide), if_neg (fun hh => hh HC5.out), if_neg (fun hh => hh HC6.out), if_neg (by have hh := HC7.out; omega), if_pos (by rw [HFR.out]; exact hc)]))
    trace "no"
    go_wp2_with fail
    go_ret
    exact ⟨by rw [HR1.out]; rfl, HB11.out⟩
  have HC8 : Hid (¬ now < ((valL p5 0 : Nat) : Int)) := Lib.hid (by rw [HFR.out]; exact hc)
  have e1 : decide (now < (FR : Int)) = false := decide_eq_false hc
  trace "15"
  go_wp2_with fail
  refine (CV4.out _).mono ?_
  rintro e w12 ⟨rfl, rfl⟩
  by_cases hc2 : (UN : Int) < now
  · have e2 : decide ((UN : Int) < now) = true := decide_eq_true hc2
    have HR1 : Hid (RR = 25) := Lib.hid (HVC.out.trans (by unfold verC; rw [if_neg (fun hh => hh HC0.out), if_neg (by rw [HC1.out]; decide), if_neg (by rw [HC2.out]; decide), if_neg (by rw [HC3.out]; decide), if_neg (by rw [HC4.out]; decide), if_neg (fun hh => hh HC5.out), if_neg (fun hh => hh HC6.out), if_neg (by have hh := HC7.out; omega), if_neg (by have hh := HC8.out; omega), if_pos (by rw [HUN.out]; exact hc2)]))
    trace "no"
    go_wp2_with fail
    go_ret
    exact ⟨by rw [HR1.out]; rfl, HB11.out⟩
  have HC9 : Hid (¬ ((valL p4 0 : Nat) : Int) < now) := Lib.hid (by rw [HUN.out]; exact hc2)
  have e2 : decide ((UN : Int) < now) = false := decide_eq_false hc2
  have hks : kd.size = 12 := by rw [← size_len]; exact hk12
  have s1 : (kd.extract 4 8).size ≤ 4 := by rw [ext_size _ _ _ (by omega)]; decide
  have s2 : (kd.extract 8 kd.size).size ≤ 4 := by rw [ext_size _ _ _ (by omega)]; omega
  have C1 := Lib.hid (fun w => rvalue_any (kd.extract 4 8) w s1)
  have C2 := Lib.hid (fun w => rvalue_any (kd.extract 8 kd.size) w s2)
  have f1 : valL (kd.extract 4 8).data.toList 0 = M := by rw [ext_list, ← HM.out]; rfl
  have f2 : valL (kd.extract 8 kd.size).data.toList 0 = E := by rw [ext_list, hks, ← HE.out]; rfl
  rw [f1] at C1
  rw [f2] at C2
  have hle : kd.size ≤ 12 := by omega
  have hge : 12 ≤ kd.size := by omega
  have qq4 : (4 : Int) ≤ (kd.size : Int) := by omega
  have qq8 : (8 : Int) ≤ (kd.size : Int) := by omega
  clear hks hk12 s1 s2 f1 f2 CV4 CV5 q4 q5
  trace "16"
  go_upto_region 17 with fail
  clear e1 e2 hc hc2
  go_region_held3 (fun w' => Below w11.heap.size w11 w') (first | assumption | exact (Below.refl _ _).drew)
    (first
      | (go_at_call_of 85 (Value.string (kd.extract 4 8)); refine (C1.out _).mono ?_; rintro e w' ⟨rfl, rfl⟩)
      | (go_at_call_of 85 (Value.string (kd.extract 8 kd.size)); refine (C2.out _).mono ?_; rintro e w' ⟨rfl, rfl⟩))
  trace "17"
  obtain ⟨w12, hw12⟩ : ∃ z, w11.drew = z := ⟨_, rfl⟩
  have hB12 : Below w11.heap.size w11 w12 := by rw [← hw12]; exact (Below.refl _ _).drew
  rw [hw12]
  have HBV12 := Lib.hid (HBV11.out.step hB12)
  have HB12 := Lib.hid (HB11.out.trans (hB12.mono HB11.out.size))
  clear hB12
  clear hw12 C1 C2
  have q8 := HBV12.out.r8
  by_cases h4 : ¬ P8.size = 4
  · have HR1 : Hid (RR = 26) := Lib.hid (HVC.out.trans (by unfold verC; rw [if_neg (fun hh => hh HC0.out), if_neg (by rw [HC1.out]; decide), if_neg (by rw [HC2.out]; decide), if_neg (by rw [HC3.out]; decide), if_neg (by rw [HC4.out]; decide), if_neg (fun hh => hh HC5.out), if_neg (fun hh => hh HC6.out), if_neg (by have hh := HC7.out; omega), if_neg (by have hh := HC8.out; omega), if_neg (by have hh := HC9.out; omega), if_pos (by rw [← HP8.out, size_len]; exact h4)]))
    have b4 : ((P8.size : Int) != 4) = true := bne_iff_ne.2 (by omega)
    trace "no"
    go_wp2_with fail
    go_ret
    exact ⟨by rw [HR1.out]; rfl, HB12.out⟩
  have h4 : P8.size = 4 := Classical.not_not.1 h4
  have HC10 : Hid (p8.length = 4) := Lib.hid (by rw [← HP8.out, size_len]; exact h4)
  have b4 : ((P8.size : Int) != 4) = false := by rw [h4]; rfl
  have CNU := Lib.hid (fun wx => val.rvalue_any P8 wx (by omega))
  obtain ⟨NV, hNV⟩ : ∃ z, valL P8.data.toList 0 = z := ⟨_, rfl⟩
  have bNV : NV ≤ 4294967296 := by rw [← hNV]; exact Nat.le_of_lt (val4 (by rw [size_len]; omega))
  rw [hNV] at CNU
  have HNV : Hid (valL p8 0 = NV) := Lib.hid (by rw [← HP8.out]; exact hNV)
  have H4 := Lib.hid h4
  clear h4 hNV
  trace "18"
  go_wp2_with fail
  refine (CNU.out _).mono ?_
  rintro e w13 ⟨rfl, rfl⟩
  by_cases h5 : M ≤ NV
  · have HR1 : Hid (RR = 26) := Lib.hid (HVC.out.trans (by unfold verC; rw [if_neg (fun hh => hh HC0.out), if_neg (by rw [HC1.out]; decide), if_neg (by rw [HC2.out]; decide), if_neg (by rw [HC3.out]; decide), if_neg (by rw [HC4.out]; decide), if_neg (fun hh => hh HC5.out), if_neg (fun hh => hh HC6.out), if_neg (by have hh := HC7.out; omega), if_neg (by have hh := HC8.out; omega), if_neg (by have hh := HC9.out; omega), if_neg (fun hh => hh HC10.out), if_pos (by rw [HNV.out, HM.out]; exact h5)]))
    have b5 : decide ((M : Int) ≤ (NV : Int)) = true := decide_eq_true (by omega)
    have b6 : decide (M ≤ NV) = true := decide_eq_true h5
    trace "no"
    go_wp2_with fail
    go_ret
    exact ⟨by rw [HR1.out]; rfl, HB12.out⟩
  have HC11 : Hid (¬ kM kd.data.toList ≤ valL p8 0) := Lib.hid (by rw [HNV.out, HM.out]; exact h5)
  have b5 : decide ((M : Int) ≤ (NV : Int)) = false := decide_eq_false (by omega)
  have b6 : decide (M ≤ NV) = false := decide_eq_false h5
  have bM1 : 0 < M := by omega
  have CPW := Lib.hid (fun wx => pow.rpower_any NV M bM1 hkm2 bNV E E wx (Nat.le_refl _) hke)
  have hpw := pow_lt (v := NV) (e := E) bM1
  obtain ⟨PW, hPW⟩ : ∃ PW, powS NV E M = PW := ⟨_, rfl⟩
  rw [hPW] at CPW hpw
  have HPW := Lib.hid hPW
  obtain ⟨⟨ls, hls⟩, ⟨ht1, ht2⟩, _, _, _, _⟩ := set_first HS.out H0.out
  obtain ⟨OW, hOW⟩ : ∃ OW, ownS (LB : Int) h.o.data.toList = OW := ⟨_, rfl⟩
  have HOW := Lib.hid hOW
  have HOL : Hid (OW.length ≤ 255) := Lib.hid (by rw [← hOW]; exact own_len _ _)
  have HOR : Hid ((if ((valL P2.data.toList 0 : Nat) : Int) < lessS (foldS h.o.data.toList) then star.starS (tailS (foldS h.o.data.toList) ((valL P2.data.toList 0 : Nat) : Int)) else foldS h.o.data.toList) = OW) := Lib.hid (by rw [HP2.out, HLB.out, ← hOW]; exact own_ref hls (by omega))
  have hT2 : A ≤ 65535 := by have h9 := HTT.out; omega
  have CSG := Lib.hid (fun (wx : World) (hB : Below w12.heap.size w12 wx) => signed_any (some ⟨pg, po, none⟩) 9 c9 P0 P1 P2 P3 P4 P5 P6 P7 pg po (some ⟨g1, o1, none⟩) n c L h A OW wx (signSet.Rd8.below HBV12.out.r hB) (by decide) HSZ.out.1 HSZ.out.2.1 HSZ.out.2.2.1 HSZ.out.2.2.2.1 HSZ.out.2.2.2.2.1 HSZ.out.2.2.2.2.2.1 HSZ.out.2.2.2.2.2.2 (by omega) HN.out ((HRD.out.below HB12.out rfl).below hB rfl) HO.out hbig H0.out HTT.out hT2 HBK.out HOR.out HOL.out)
  have bTX : ((P0.data.toList ++ P1.data.toList ++ P2.data.toList ++ P3.data.toList ++ P4.data.toList ++ P5.data.toList ++ P6.data.toList ++ foldS P7.data.toList) ++ bodyS OW (bigS A 2) P3.data.toList (sortedT (L.map foldX))).length ≤ 1099511627776 := by
    have hz := HSZ.out
    have hbe := body_len (own := OW) (t2 := bigS A 2) (ttl := P3.data.toList) HOL.out (by rw [bigS_len]; omega) (by rw [size_len]; omega) (sortedT (L.map foldX))
    have h1 := dfold.fold_short P7.data.toList
    have h2 : bulk (sortedT (L.map foldX)) ≤ 68719476736 := by
      have h1 := (fold_sorted (L.map foldX) [] List.Pairwise.nil).2
      rw [List.append_nil] at h1
      rw [show bulk (sortedT (L.map foldX)) = bulk (L.map foldX) from bulk_perm h1]
      exact HBK.out
    have h3 : (sortedT (L.map foldX)).length = n := by rw [sortedT_len, List.length_map, HN.out]
    simp only [List.length_append, size_len] at *
    omega
  obtain ⟨TX, hTX⟩ : ∃ TX : ByteArray, (⟨((P0.data.toList ++ P1.data.toList ++ P2.data.toList ++ P3.data.toList ++ P4.data.toList ++ P5.data.toList ++ P6.data.toList ++ foldS P7.data.toList) ++ bodyS OW (bigS A 2) P3.data.toList (sortedT (L.map foldX))).toArray⟩ : ByteArray) = TX := ⟨_, rfl⟩
  rw [hTX] at CSG
  have hTXd : TX.data.toList = (P0.data.toList ++ P1.data.toList ++ P2.data.toList ++ P3.data.toList ++ P4.data.toList ++ P5.data.toList ++ P6.data.toList ++ foldS P7.data.toList) ++ bodyS OW (bigS A 2) P3.data.toList (sortedT (L.map foldX)) := by rw [← hTX]
  have hTXs : TX.size ≤ 1099511627776 := by rw [← size_len, hTXd]; exact bTX
  have CM := Lib.hid (fun wx => fig.figure_any TX M wx hTXs bM1 hkm2)
  obtain ⟨FG, hFG⟩ : ∃ FG, figL M (digestS TX.data.toList) 0 = FG := ⟨_, rfl⟩
  rw [hFG] at CM
  have HFG : Hid (figL (kM kd.data.toList) (digestS (sealS.textS (hdS p0 p1 p2 p3 p4 p5 p6) p7 ((valL p2 0 : Nat) : Int) h.o.data.toList (sortedT (L.map foldX)))) 0 = FG) := Lib.hid (by
    have e1 : sealS.textS (hdS p0 p1 p2 p3 p4 p5 p6) p7 ((valL p2 0 : Nat) : Int) h.o.data.toList (sortedT (L.map foldX)) = TX.data.toList := by
      rw [hTXd]
      unfold sealS.textS
      rw [HGS.out.cuts.1, HGS.out.cuts.2.2.2.1, HLB.out, HOW.out, HP0.out, HP1.out, HP2.out, HP3.out, HP4.out, HP5.out, HP6.out, HP7.out, ← HA.out, big_val2 HGS.out.l0]
      rfl
    rw [HM.out, e1, hFG])
  clear bTX hTX hTXd hTXs hFG hPW hOW hls ht1 ht2 hT2
  trace "19"
  go_wp2_with fail
  refine (CNU.out _).mono ?_
  rintro e w13 ⟨rfl, rfl⟩
  go_wp2_with fail
  refine (CPW.out _).mono ?_
  rintro e w13 ⟨rfl, rfl⟩
  go_wp2_with fail
  refine (CSG.out _ (Below.refl _ _)).mono ?_
  rintro e w13 ⟨rfl, hB13⟩
  have HBV13 := Lib.hid (HBV12.out.step hB13)
  have HB13 := Lib.hid (HB12.out.trans (hB13.mono HB12.out.size))
  clear hB13
  trace "20"
  go_wp2_with fail
  refine (CM.out _).mono ?_
  rintro e w14 ⟨rfl, hB14⟩
  have HBV14 := Lib.hid (HBV13.out.step hB14)
  have HB14 := Lib.hid (HB13.out.trans (hB14.mono HB13.out.size))
  clear hB14
  clear CNU CPW CSG CM
  by_cases h6 : PW = FG
  · have HR1 : Hid (RR = 0) := Lib.hid (HVC.out.trans (by unfold verC; rw [if_neg (fun hh => hh HC0.out), if_neg (by rw [HC1.out]; decide), if_neg (by rw [HC2.out]; decide), if_neg (by rw [HC3.out]; decide), if_neg (by rw [HC4.out]; decide), if_neg (fun hh => hh HC5.out), if_neg (fun hh => hh HC6.out), if_neg (by have hh := HC7.out; omega), if_neg (by have hh := HC8.out; omega), if_neg (by have hh := HC9.out; omega), if_neg (fun hh => hh HC10.out), if_neg (by have hh := HC11.out; omega), if_neg (fun hh => hh (by rw [HNV.out, HE.out, HM.out, HPW.out]; exact h6.trans (by rw [← HM.out]; exact HFG.out.symm)))]))
    have b7 : ((PW : Int) != (FG : Int)) = false := by rw [h6]; simp
    trace "no"
    go_wp2_with fail
    go_ret
    exact ⟨by rw [HR1.out]; rfl, HB14.out⟩
  have HR1 : Hid (RR = 26) := Lib.hid (HVC.out.trans (by unfold verC; rw [if_neg (fun hh => hh HC0.out), if_neg (by rw [HC1.out]; decide), if_neg (by rw [HC2.out]; decide), if_neg (by rw [HC3.out]; decide), if_neg (by rw [HC4.out]; decide), if_neg (fun hh => hh HC5.out), if_neg (fun hh => hh HC6.out), if_neg (by have hh := HC7.out; omega), if_neg (by have hh := HC8.out; omega), if_neg (by have hh := HC9.out; omega), if_neg (fun hh => hh HC10.out), if_neg (by have hh := HC11.out; omega), if_pos (fun hh => h6 (by rw [HNV.out, HE.out, HM.out, HPW.out] at hh; exact hh.trans (by rw [← HM.out]; exact HFG.out)))]))
  have b7 : ((PW : Int) != (FG : Int)) = true := bne_iff_ne.2 (fun e => h6 (by omega))
  trace "no"
  go_wp2_with fail
  go_ret
  exact ⟨by rw [HR1.out]; rfl, HB14.out⟩
end Go.Proofs.YtflijhodlimjoaaGreat.verifySet
