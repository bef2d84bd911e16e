/- seal.Hash, gazetteerref4.Hash, the law SealDigests: walks. -/
import Derived.Test.YtjflojefpaffeaaDigest
import Derived.Test.YtjflojefpaffeaaNameB
namespace Go.Proofs.Ytjflojefpaffeaa.hash
open Go.RowKit Go.Proofs.Ytjflojefpaffeaa.kit Go.Proofs.Ytjflojefpaffeaa.check Go.Proofs.Ytjflojefpaffeaa.nspec Go.Proofs.Ytjflojefpaffeaa.rsplit Go.Proofs.Ytjflojefpaffeaa.refA Go.Proofs.Ytjflojefpaffeaa.nameB Go.Proofs.Ytjflojefpaffeaa.half Go.Proofs.Ytjflojefpaffeaa.digest
set_option linter.unusedVariables false

def hI (n salt : Bs) : Nat → Bs
  | 0 => digestS (foldS n ++ salt)
  | k + 1 => digestS (hI n salt k ++ salt)
theorem hI_len (n salt : Bs) (k : Nat) : (hI n salt k).length = 10 := by cases k <;> exact digest_len _
def hashS (n salt : Bs) (rounds : Int) : Bs × Int := if split n = none then ([], 1) else if 255 < salt.length ∨ rounds < 0 ∨ 50 < rounds then ([], 23) else (hI n salt rounds.toNat, 0)
def Ret2 (r : Bs × Int) : Ending := .returned (.tuple #[.string ⟨r.1.toArray⟩, .int .i64 r.2])
theorem fold_size {n : ByteArray} {ls : List Bs} (h : IsN n.data.toList ls) : (foldS n.data.toList).length ≤ 255 := by
  rw [foldS_yes h, put_length, room_low]
  have := isN_room h; omega
theorem arr_app (a b : ByteArray) : (a ++ b).data.toList = a.data.toList ++ b.data.toList := by simp

set_option maxRecDepth 100000 in
set_option maxHeartbeats 2000000 in
theorem nhash_any (n salt : ByteArray) (rounds : Int) (w : World) (hn : n.size ≤ 1099511627776) (hs : salt.size ≤ 1099511627776) :
    Calls Try.prog 31 #[.string n, .string salt, .int .i64 rounds] w fun e w' => e = Ret2 (hashS n.data.toList salt.data.toList rounds) ∧ Below w.heap.size w w' := by
  obtain ⟨R, HR⟩ : ∃ R, Hid (hashS n.data.toList salt.data.toList rounds = R) := ⟨_, Lib.hid rfl⟩
  rw [HR.out]
  rcases isB_or n with ⟨ls, hN⟩ | hN
  · have HK := Lib.hid (chk_yes hN)
    have hfs := fold_size hN
    have hsp : split n.data.toList ≠ none := by rw [split_iff.2 hN]; simp
    clear hN
    by_cases hbad : 255 < (salt.size : Int) ∨ rounds < 0 ∨ 50 < rounds
    · have HN : Hid (R = ([], 23)) := Lib.hid (by rw [← HR.out, hashS, if_neg hsp, if_pos (by rw [size_len]; omega)])
      clear hsp
      by_cases h1 : 255 < (salt.size : Int)
      · clear hbad
        go_enter Try.func31, Try.ntmps31
        go_wp2_with fail
        refine (check_any n _ hn).mono ?_
        rintro e w1 ⟨rfl, hB1⟩
        rw [HK.out]
        go_wp2
        go_ret2
        exact ⟨by rw [HN.out]; rfl, hB1⟩
      · have h1' : (salt.size : Int) ≤ 255 := by omega
        by_cases h2 : rounds < 0
        · clear hbad h1
          go_enter Try.func31, Try.ntmps31
          go_wp2_with fail
          refine (check_any n _ hn).mono ?_
          rintro e w1 ⟨rfl, hB1⟩
          rw [HK.out]
          go_wp2
          go_ret2
          exact ⟨by rw [HN.out]; rfl, hB1⟩
        · have h2' : 0 ≤ rounds := by omega
          have h3 : 50 < rounds := by omega
          clear hbad h1 h2
          go_enter Try.func31, Try.ntmps31
          go_wp2_with fail
          refine (check_any n _ hn).mono ?_
          rintro e w1 ⟨rfl, hB1⟩
          rw [HK.out]
          go_wp2
          go_ret2
          exact ⟨by rw [HN.out]; rfl, hB1⟩
    · have hs2 : (salt.size : Int) ≤ 255 := by omega
      obtain ⟨r, rfl⟩ := Int.eq_ofNat_of_zero_le (show 0 ≤ rounds by omega)
      have hr50 : (r : Int) ≤ 50 := by omega
      have HN : Hid (R = (hI n.data.toList salt.data.toList r, 0)) := Lib.hid (by rw [← HR.out, hashS, if_neg hsp, if_neg (by rw [size_len]; omega), Int.toNat_natCast])
      clear hsp hbad
      obtain ⟨F, hF⟩ : ∃ F : ByteArray, (⟨(foldS n.data.toList).toArray⟩ : ByteArray) = F := ⟨_, rfl⟩
      have hFd : F.data.toList = foldS n.data.toList := by rw [← hF]
      have hFs : F.size ≤ 255 := by rw [← size_len, hFd]; exact hfs
      have HF := Lib.hid hF
      obtain ⟨H0, hH0⟩ : ∃ H : ByteArray, (⟨(digestS (F ++ salt).data.toList).toArray⟩ : ByteArray) = H := ⟨_, rfl⟩
      have HH0 := Lib.hid hH0
      have hH0d : H0.data.toList = hI n.data.toList salt.data.toList 0 := by rw [← hH0, hI, ← hFd, ← arr_app]
      have HH0D := Lib.hid hH0d
      have hH0s : H0.size ≤ 10 := by rw [← size_len, hH0d, hI_len]; exact Nat.le_refl 10
      clear hF hFd hfs hH0 hH0d
      go_enter Try.func31, Try.ntmps31
      go_wp2_with fail
      refine (check_any n _ hn).mono ?_
      rintro e w1 ⟨rfl, hB1⟩
      rw [HK.out]
      go_wp2_with fail
      refine (nfold_any n _ hn).mono ?_
      rintro e w2 ⟨rfl, hB2⟩
      rw [HF.out]
      have hBB := hB1.trans (hB2.mono hB1.size)
      go_wp2_with fail
      refine (ndigest_any (F ++ salt) _ (by rw [ByteArray.size_append]; omega)).mono ?_
      rintro e w3 ⟨rfl, hB3⟩
      rw [HH0.out]
      have hBC := hBB.trans (hB3.mono hBB.size)
      go_wp2
      go_loopg [8, 29] (r + 1) (fun gas hv kv wr => ∃ (k : Nat) (H : ByteArray), kv = .int .i64 k ∧ hv = .string H ∧ k ≤ r ∧ k + gas = r + 1 ∧ H.size ≤ 10 ∧ Hid (H.data.toList = hI n.data.toList salt.data.toList k) ∧ Below w.heap.size w wr)
      case atStart => exact ⟨0, H0, rfl, rfl, by omega, by omega, hH0s, HH0D, hBC⟩
      case round =>
        clear hB1 hB2 hBB hB3 hBC
        obtain ⟨k, H, rfl, rfl, hk, hkg, hHs, HH, hB⟩ := hrel
        have HKK := Lib.hid hkg; clear hkg
        by_cases hlt : k < r
        · obtain ⟨H1, hH1⟩ : ∃ H1 : ByteArray, (⟨(digestS (H ++ salt).data.toList).toArray⟩ : ByteArray) = H1 := ⟨_, rfl⟩
          have hH1d : H1.data.toList = hI n.data.toList salt.data.toList (k + 1) := by rw [← hH1, hI, ← HH.out, ← arr_app]
          have HH1D := Lib.hid hH1d
          have hH1s : H1.size ≤ 10 := by rw [← size_len, hH1d, hI_len]; exact Nat.le_refl 10
          have HH1 := Lib.hid hH1
          clear hH1 hH1d
          go_wp2_with fail
          refine (ndigest_any (H ++ salt) _ (by rw [ByteArray.size_append]; omega)).mono ?_
          rintro e w4 ⟨rfl, hB4⟩
          rw [HH1.out]
          go_wp2
          have hkg := HKK.out
          go_roundg (gk - 1)
          case rel => exact ⟨k + 1, H1, by go_num, rfl, by omega, by omega, hH1s, HH1D, hB.trans (hB4.mono hB.size)⟩
          case measure => omega
        · have hkr : k = r := by omega
          subst hkr
          have HE : Hid ((⟨(hI n.data.toList salt.data.toList k).toArray⟩ : ByteArray) = H) := Lib.hid (ba_ext HH.out.symm)
          go_wp2
          go_ret2
          exact ⟨by rw [HN.out]; unfold Ret2; rw [HE.out]; rfl, hB⟩
  · have HK := Lib.hid (chk_no hN)
    have HN : Hid (R = ([], 1)) := Lib.hid (by rw [← HR.out, hashS, if_pos hN])
    clear hN
    go_enter Try.func31, Try.ntmps31
    go_wp2_with fail
    refine (check_any n _ hn).mono ?_
    rintro e w1 ⟨rfl, hB1⟩
    rw [HK.out]
    go_wp2
    go_ret2
    exact ⟨by rw [HN.out]; rfl, hB1⟩

set_option maxRecDepth 100000 in
set_option maxHeartbeats 2000000 in
theorem rhash_ok (n salt : ByteArray) (ls : List Bs) (hN0 : IsN n.data.toList ls) (hs2 : (salt.size : Int) ≤ 255) (k : Nat) : ∀ (w : World), k ≤ 50 →
    Calls Try.prog 32 #[.string n, .string salt, .int .i64 (k : Int)] w fun e w' => e = Ret2 (hI n.data.toList salt.data.toList k, 0) ∧ Below w.heap.size w w' := by
  have hn : n.size ≤ 1099511627776 := by have := hN0.2.2; rw [size_len] at this; omega
  have HI := Lib.hid (isB_yes hN0)
  have hfs := fold_size hN0
  obtain ⟨F, hF⟩ : ∃ F : ByteArray, (⟨(foldS n.data.toList).toArray⟩ : ByteArray) = F := ⟨_, rfl⟩
  have hFd : F.data.toList = foldS n.data.toList := by rw [← hF]
  have hFs : F.size ≤ 255 := by rw [← size_len, hFd]; exact hfs
  have HF := Lib.hid hF
  have HFD := Lib.hid hFd
  clear hF hFd hfs hN0
  induction k with
  | zero =>
    intro w _
    obtain ⟨H0, hH0⟩ : ∃ H : ByteArray, (⟨(digestS (F ++ salt).data.toList).toArray⟩ : ByteArray) = H := ⟨_, rfl⟩
    have HH0 := Lib.hid hH0
    have HE : Hid ((⟨(hI n.data.toList salt.data.toList 0).toArray⟩ : ByteArray) = H0) := Lib.hid (by rw [← hH0, hI, ← HFD.out, ← arr_app])
    clear hH0
    go_enter Try.func32, Try.ntmps32
    go_wp2_with fail
    refine (isName_any n _ hn).mono ?_
    rintro e w1 ⟨rfl, hB1⟩
    rw [HI.out]
    go_wp2_with fail
    refine (fold_any n _ hn).mono ?_
    rintro e w2 ⟨rfl, hB2⟩
    rw [HF.out]
    go_wp2_with fail
    refine (rdigest_any (F ++ salt) _ (by rw [ByteArray.size_append]; omega)).mono ?_
    rintro e w3 ⟨rfl, hB3⟩
    rw [HH0.out]
    go_wp2
    go_ret2
    have hBB := hB1.trans (hB2.mono hB1.size)
    exact ⟨by unfold Ret2; rw [HE.out]; rfl, hBB.trans (hB3.mono hBB.size)⟩
  | succ k ih =>
    intro w hk
    have IH := Lib.hid (fun w => ih w (by omega))
    clear ih
    obtain ⟨m, hm⟩ : ∃ m, k + 1 = m := ⟨_, rfl⟩
    obtain ⟨P, hP⟩ : ∃ P : ByteArray, (⟨(hI n.data.toList salt.data.toList k).toArray⟩ : ByteArray) = P := ⟨_, rfl⟩
    have hPd : P.data.toList = hI n.data.toList salt.data.toList k := by rw [← hP]
    have hPs : P.size ≤ 10 := by rw [← size_len, hPd, hI_len]; exact Nat.le_refl 10
    have HP := Lib.hid hP
    obtain ⟨H0, hH0⟩ : ∃ H : ByteArray, (⟨(digestS (P ++ salt).data.toList).toArray⟩ : ByteArray) = H := ⟨_, rfl⟩
    have HH0 := Lib.hid hH0
    have HE : Hid ((⟨(hI n.data.toList salt.data.toList m).toArray⟩ : ByteArray) = H0) := Lib.hid (by rw [← hm, ← hH0, hI, ← hPd, ← arr_app])
    have hm1 : (1 : Int) ≤ (m : Int) := by omega
    have hm50 : (m : Int) ≤ 50 := by omega
    have hm0 : ((m : Int) == 0) = false := by rw [beq_eq_false_iff_ne]; omega
    have hsub : Value.int .i64 ((m : Int) - 1) = Value.int .i64 (k : Int) := by congr 1; omega
    rw [hm]
    clear hm hP hPd hH0
    go_enter Try.func32, Try.ntmps32
    go_wp2_with fail
    refine (isName_any n _ hn).mono ?_
    rintro e w1 ⟨rfl, hB1⟩
    rw [HI.out]
    go_wp2_with fail
    refine (IH.out _).mono ?_
    rintro e w2 ⟨rfl, hB2⟩
    unfold Ret2
    simp only [HP.out]
    go_wp2_with fail
    refine (rdigest_any (P ++ salt) _ (by rw [ByteArray.size_append]; omega)).mono ?_
    rintro e w3 ⟨rfl, hB3⟩
    rw [HH0.out]
    go_wp2
    go_ret2
    have hBB := hB1.trans (hB2.mono hB1.size)
    refine ⟨?_, hBB.trans (hB3.mono hBB.size)⟩
    have hfin : Ret2 (hI n.data.toList salt.data.toList m, 0) = .returned (.tuple #[.string H0, .int .i64 0]) := by unfold Ret2; rw [HE.out]
    exact hfin.symm

set_option maxRecDepth 100000 in
set_option maxHeartbeats 2000000 in
theorem rhash_any (n salt : ByteArray) (rounds : Int) (w : World) (hn : n.size ≤ 1099511627776) (hs : salt.size ≤ 1099511627776) :
    Calls Try.prog 32 #[.string n, .string salt, .int .i64 rounds] w fun e w' => e = Ret2 (hashS n.data.toList salt.data.toList rounds) ∧ Below w.heap.size w w' := by
  obtain ⟨R, HR⟩ : ∃ R, Hid (hashS n.data.toList salt.data.toList rounds = R) := ⟨_, Lib.hid rfl⟩
  rw [HR.out]
  rcases isB_or n with ⟨ls, hN⟩ | hN
  · have HI := Lib.hid (isB_yes hN)
    have hsp : split n.data.toList ≠ none := by rw [split_iff.2 hN]; simp
    by_cases hbad : 255 < (salt.size : Int) ∨ rounds < 0 ∨ 50 < rounds
    · have HN : Hid (R = ([], 23)) := Lib.hid (by rw [← HR.out, hashS, if_neg hsp, if_pos (by rw [size_len]; omega)])
      clear hsp hN
      by_cases h1 : 255 < (salt.size : Int)
      · clear hbad
        go_enter Try.func32, Try.ntmps32
        go_wp2_with fail
        refine (isName_any n _ hn).mono ?_
        rintro e w1 ⟨rfl, hB1⟩
        rw [HI.out]
        go_wp2
        go_ret2
        exact ⟨by rw [HN.out]; rfl, hB1⟩
      · have h1' : (salt.size : Int) ≤ 255 := by omega
        by_cases h2 : rounds < 0
        · clear hbad h1
          go_enter Try.func32, Try.ntmps32
          go_wp2_with fail
          refine (isName_any n _ hn).mono ?_
          rintro e w1 ⟨rfl, hB1⟩
          rw [HI.out]
          go_wp2
          go_ret2
          exact ⟨by rw [HN.out]; rfl, hB1⟩
        · have h2' : 0 ≤ rounds := by omega
          have h3 : 50 < rounds := by omega
          clear hbad h1 h2
          go_enter Try.func32, Try.ntmps32
          go_wp2_with fail
          refine (isName_any n _ hn).mono ?_
          rintro e w1 ⟨rfl, hB1⟩
          rw [HI.out]
          go_wp2
          go_ret2
          exact ⟨by rw [HN.out]; rfl, hB1⟩
    · have hs2 : (salt.size : Int) ≤ 255 := by omega
      obtain ⟨r, rfl⟩ := Int.eq_ofNat_of_zero_le (show 0 ≤ rounds by omega)
      rw [← HR.out, hashS, if_neg hsp, if_neg (by rw [size_len]; omega), Int.toNat_natCast]
      exact rhash_ok n salt ls hN hs2 r w (by omega)
  · have HI := Lib.hid (isB_no hN)
    have HN : Hid (R = ([], 1)) := Lib.hid (by rw [← HR.out, hashS, if_pos hN])
    clear hN
    go_enter Try.func32, Try.ntmps32
    go_wp2_with fail
    refine (isName_any n _ hn).mono ?_
    rintro e w1 ⟨rfl, hB1⟩
    rw [HI.out]
    go_wp2
    go_ret2
    exact ⟨by rw [HN.out]; rfl, hB1⟩

set_option maxRecDepth 100000 in
set_option maxHeartbeats 2000000 in
theorem law (text n salt : ByteArray) (rounds : Int) (w : World) (ht : text.size ≤ 1048576) (hn : n.size ≤ 1048576) (hs : salt.size ≤ 1048576) (hr : (Lit.int .i64 rounds).wf = true) :
    Calls Try.prog 10 #[.string text, .string n, .string salt, .int .i64 rounds] w fun e w' => e = .returned (.bool true) ∧ Below w.heap.size w w' := by
  obtain ⟨R, hR⟩ : ∃ R, hashS n.data.toList salt.data.toList rounds = R := ⟨_, rfl⟩
  have HR := Lib.hid hR; clear hR
  obtain ⟨d, e'⟩ := R
  obtain ⟨D, hD⟩ : ∃ D : ByteArray, (⟨d.toArray⟩ : ByteArray) = D := ⟨_, rfl⟩
  have HD := Lib.hid hD; clear hD
  obtain ⟨T, hT⟩ : ∃ T : ByteArray, (⟨(digestS text.data.toList).toArray⟩ : ByteArray) = T := ⟨_, rfl⟩
  have HT := Lib.hid hT; clear hT
  clear hr
  go_enter Try.func10, Try.ntmps10
  go_wp2_with fail
  refine (nhash_any n salt rounds _ (by omega) (by omega)).mono ?_
  rintro e w1 ⟨rfl, hB1⟩
  rw [HR.out]
  unfold Ret2
  simp only [HD.out]
  go_wp2_with fail
  refine (rhash_any n salt rounds _ (by omega) (by omega)).mono ?_
  rintro e w2 ⟨rfl, hB2⟩
  rw [HR.out]
  unfold Ret2
  simp only [HD.out]
  have hBB := hB1.trans (hB2.mono hB1.size)
  go_wp2_with fail
  refine (ndigest_any text _ (by omega)).mono ?_
  rintro e w3 ⟨rfl, hB3⟩
  rw [HT.out]
  have hBC := hBB.trans (hB3.mono hBB.size)
  go_wp2_with fail
  refine (rdigest_any text _ (by omega)).mono ?_
  rintro e w4 ⟨rfl, hB4⟩
  rw [HT.out]
  go_wp2
  go_ret
  exact ⟨rfl, hBC.trans (hB4.mono hBC.size)⟩
end Go.Proofs.Ytjflojefpaffeaa.hash
