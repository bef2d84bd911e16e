/- What a zone above tells of a key: gazetteerref4.IsKey, Ds of both: walks. -/
import Derived.Test.YtjflojefpaffeaaOpen
import Derived.Test.YtjflojefpaffeaaHash
import Derived.Test.YtjflojefpaffeaaTag
import Derived.Test.YtjflojefpaffeaaTag
namespace Go.Proofs.Ytjflojefpaffeaa.ds
open Go.RowKit Go.Proofs.Ytjflojefpaffeaa.newKey Go.Proofs.Ytjflojefpaffeaa.kit Go.Proofs.Ytjflojefpaffeaa.right Go.Proofs.Ytjflojefpaffeaa.big Go.Proofs.Ytjflojefpaffeaa.pub Go.Proofs.Ytjflojefpaffeaa.val Go.Proofs.Ytjflojefpaffeaa.opens Go.Proofs.Ytjflojefpaffeaa.tag Go.Proofs.Ytjflojefpaffeaa.hash Go.Proofs.Ytjflojefpaffeaa.digest Go.Proofs.Ytjflojefpaffeaa.half Go.Proofs.Ytjflojefpaffeaa.check Go.Proofs.Ytjflojefpaffeaa.nspec Go.Proofs.Ytjflojefpaffeaa.rsplit Go.Proofs.Ytjflojefpaffeaa.refA Go.Proofs.Ytjflojefpaffeaa.nameB
set_option linter.unusedVariables false

set_option maxRecDepth 100000 in
set_option maxHeartbeats 2000000 in
theorem isKey_any (s : ByteArray) (w : World) (hs : s.size ≤ 1099511627776) :
    Calls Try.prog 109 #[.string s] w fun en w' => en = .returned (.bool (isKeyB s.data.toList)) ∧ Below w.heap.size w w' := by
  by_cases h12 : s.size = 12
  · have hl : s.data.toList.length = 12 := by rw [size_len]; exact h12
    have x1 : (s.extract 0 2).size ≤ 4 := by rw [ext_size _ _ _ (by omega)]; decide
    have x2 : (s.extract 4 8).size ≤ 4 := by rw [ext_size _ _ _ (by omega)]; decide
    have x3 : (s.extract 8 s.size).size ≤ 4 := by rw [ext_size _ _ _ (by omega)]; omega
    have C1 := Lib.hid (fun w => rvalue_any (s.extract 0 2) w x1)
    have C2 := Lib.hid (fun w => rvalue_any (s.extract 4 8) w x2)
    have C3 := Lib.hid (fun w => rvalue_any (s.extract 8 s.size) w x3)
    have e1 : valL (s.extract 0 2).data.toList 0 = kF s.data.toList := by rw [ext_list]; rfl
    have e2 : valL (s.extract 4 8).data.toList 0 = kM s.data.toList := by rw [ext_list]; rfl
    have e3 : valL (s.extract 8 s.size).data.toList 0 = kE s.data.toList := by rw [ext_list, h12]; rfl
    rw [e1] at C1
    rw [e2] at C2
    rw [e3] at C3
    have HK : Hid (isKeyB s.data.toList = decide (pubS (kF s.data.toList : Nat) (kM s.data.toList : Nat) (kE s.data.toList : Nat) 1 = s.data.toList)) := Lib.hid (by unfold isKeyB; rw [hl]; rfl)
    obtain ⟨F, hF⟩ : ∃ F, kF s.data.toList = F := ⟨_, rfl⟩
    obtain ⟨M, hM⟩ : ∃ M, kM s.data.toList = M := ⟨_, rfl⟩
    obtain ⟨E, hE⟩ : ∃ E, kE s.data.toList = E := ⟨_, rfl⟩
    rw [hF] at C1
    rw [hM] at C2
    rw [hE] at C3
    rw [hF, hM, hE] at HK
    have CP := Lib.hid (fun w => rpub_any (F : Int) (M : Int) (E : Int) 1 w)
    obtain ⟨D, hD⟩ : ∃ D : ByteArray, (⟨(pubS (F : Int) (M : Int) (E : Int) 1).toArray⟩ : ByteArray) = D := ⟨_, rfl⟩
    have HD : Hid (isKeyB s.data.toList = (D.toList == s.toList)) := Lib.hid (by rw [HK.out, ← hD, Lib.toList_data, Lib.toList_data, Bool.eq_iff_iff]; simp)
    rw [hD] at CP
    rw [HD.out]
    have hle : s.size ≤ 12 := by omega
    have hge : 12 ≤ s.size := by omega
    have b12 : ((s.size : Int) != 12) = false := by rw [h12]; rfl
    have q2 : (2 : Int) ≤ (s.size : Int) := by omega
    have q4 : (4 : Int) ≤ (s.size : Int) := by omega
    have q8 : (8 : Int) ≤ (s.size : Int) := by omega
    have q12 : (12 : Int) ≤ (s.size : Int) := by omega
    clear h12 hl e1 e2 e3 hF hM hE hD HK x1 x2 x3
    go_enter Try.func109, Try.ntmps109
    go_wp2_with fail
    go_region_held3 (fun w' => Below w.heap.size w w') (first | assumption | exact (Below.refl _ _).drew)
      (first
        | (go_at_call_of 120 (Value.string (s.extract 0 2)); refine (C1.out _).mono ?_; rintro e w' ⟨rfl, rfl⟩)
        | (go_at_call_of 120 (Value.string (s.extract 4 8)); refine (C2.out _).mono ?_; rintro e w' ⟨rfl, rfl⟩)
        | (go_at_call_of 120 (Value.string (s.extract 8 s.size)); refine (C3.out _).mono ?_; rintro e w' ⟨rfl, rfl⟩)
        | (go_at_call_of 70 (Value.agg #[.int .i64 (F : Int), .int .i64 (M : Int), .int .i64 (E : Int), .int .i64 1]); refine (CP.out _).mono ?_; rintro e w' ⟨rfl, hBz⟩; have hBy := Below.trans (by assumption) (hBz.mono (Below.size (by assumption))); clear hBz))
    all_goals (go_wp2_with fail; go_ret; exact ⟨rfl, by assumption⟩)
  · have hl : s.data.toList.length ≠ 12 := by rw [size_len]; exact h12
    have HO : Hid (isKeyB s.data.toList = false) := Lib.hid (by unfold isKeyB; rw [decide_eq_false hl]; rfl)
    rw [HO.out]
    have b12 : ((s.size : Int) != 12) = true := by rw [bne_iff_ne]; omega
    clear h12 hl
    go_enter Try.func109, Try.ntmps109
    go_wp2_with fail
    go_ret
    exact ⟨rfl, Below.refl _ _⟩

def dsS (o d : Bs) : Bs × Int := if split o = none then ([], 1) else if isKeyB d = false then ([], 24) else (bigS (tagS d) 2 ++ [253, 1] ++ digestS (foldS o ++ d), 0)
theorem key_len {d : Bs} (h : isKeyB d = true) : d.length = 12 := by unfold isKeyB at h; rw [Bool.and_eq_true, decide_eq_true_eq] at h; exact h.1
theorem open_form (d : Bs) : ∃ a b c e : Int, openR d = .returned (.tuple #[.agg #[.int .i64 a, .int .i64 b, .int .i64 c, .int .i64 e], .bool (isKeyB d)]) := by
  unfold openR; split
  · exact ⟨_, _, _, _, rfl⟩
  · exact ⟨_, _, _, _, rfl⟩
theorem ds_len (o d : Bs) : (dsS o d).1.length ≤ 14 := by
  unfold dsS; split
  · simp
  · split
    · simp
    · simp [bigS_len, digest_len]
theorem tag_lt (d : Bs) : tagS d < 65536 := Nat.mod_lt _ (by omega)

set_option maxRecDepth 100000 in
set_option maxHeartbeats 2000000 in
theorem nds_any (o d : ByteArray) (w : World) (ho : o.size ≤ 1099511627776) (hd : d.size ≤ 1099511627776) :
    Calls Try.prog 73 #[.string o, .string d] w fun e w' => e = Ret2 (dsS o.data.toList d.data.toList) ∧ Below w.heap.size w w' := by
  obtain ⟨R, HR⟩ : ∃ R, Hid (dsS o.data.toList d.data.toList = R) := ⟨_, Lib.hid rfl⟩
  rw [HR.out]
  rcases isB_or o with ⟨ls, hN⟩ | hN
  · have HK := Lib.hid (chk_yes hN)
    have hfs := fold_size hN
    have hsp : split o.data.toList ≠ none := by rw [split_iff.2 hN]; simp
    clear hN
    obtain ⟨b, hb⟩ : ∃ b, isKeyB d.data.toList = b := ⟨_, rfl⟩
    obtain ⟨ka, kb, kc, ke, hO⟩ := open_form d.data.toList
    have HO := Lib.hid hO; clear hO
    cases b with
    | false =>
      have HN : Hid (R = ([], 24)) := Lib.hid (by rw [← HR.out, dsS, if_neg hsp, if_pos hb])
      have HB := Lib.hid hb
      clear hsp hb hfs
      go_enter Try.func73, Try.ntmps73
      go_wp2_with fail
      refine (check_any o _ ho).mono ?_
      rintro e w1 ⟨rfl, hB1⟩
      rw [HK.out]
      go_wp2_with fail
      refine (open_any d _ hd).mono ?_
      rintro e w2 ⟨rfl, hB2⟩
      rw [HO.out, HB.out]
      have HBB := Lib.hid (hB1.trans (hB2.mono hB1.size))
      clear hB1 hB2
      go_wp2_with fail
      go_ret2
      exact ⟨by rw [HN.out]; rfl, (HBB.out).alloc HBB.out.size _⟩
    | true =>
      have hl : d.size = 12 := by rw [← size_len]; exact key_len hb
      have HN : Hid (R = (bigS (tagS d.data.toList) 2 ++ [253, 1] ++ digestS (foldS o.data.toList ++ d.data.toList), 0)) := Lib.hid (by rw [← HR.out, dsS, if_neg hsp, if_neg (by rw [hb]; simp)])
      have HB := Lib.hid hb
      have hT := tag_lt d.data.toList
      clear hsp hb
      obtain ⟨T, hTT⟩ : ∃ T, tagS d.data.toList = T := ⟨_, rfl⟩
      have CT := Lib.hid (fun w => ntag_any d w (by omega))
      rw [hTT] at CT hT HN
      have CB := Lib.hid (fun w => bytes_any T 2 w (by omega) (by omega))
      have CF := Lib.hid (fun w => nfold_any o w ho)
      obtain ⟨F, hF⟩ : ∃ F : ByteArray, (⟨(foldS o.data.toList).toArray⟩ : ByteArray) = F := ⟨_, rfl⟩
      have hFd : F.data.toList = foldS o.data.toList := by rw [← hF]
      have hFs : F.size ≤ 255 := by rw [← size_len, hFd]; exact hfs
      rw [hF] at CF
      have CD := Lib.hid (fun w => ndigest_any (F ++ d) w (by rw [ByteArray.size_append]; omega))
      rw [arr_app, hFd] at CD
      obtain ⟨D, hD⟩ : ∃ D : ByteArray, (⟨(digestS (foldS o.data.toList ++ d.data.toList)).toArray⟩ : ByteArray) = D := ⟨_, rfl⟩
      have hDs : D.size ≤ 10 := by rw [← hD, mk_size, digest_len]; exact Nat.le_refl _
      obtain ⟨B, hB⟩ : ∃ B : ByteArray, (⟨(bigS T 2).toArray⟩ : ByteArray) = B := ⟨_, rfl⟩
      have hBs : B.size ≤ 2 := by rw [← hB, mk_size, bigS_len]; exact Nat.le_refl _
      rw [hD] at CD
      rw [hB] at CB
      have HRR : Hid (Ret2 R = .returned (.tuple #[.string (B ++ ⟨#[253, 1]⟩ ++ D), .int .i64 0])) := Lib.hid (by
        rw [HN.out]; unfold Ret2
        have : (⟨(bigS T 2 ++ [253, 1] ++ digestS (foldS o.data.toList ++ d.data.toList)).toArray⟩ : ByteArray) = B ++ ⟨#[253, 1]⟩ ++ D := by rw [← hB, ← hD]; exact ba_ext (by simp)
        simp only [this])
      rw [HRR.out]
      have hdl : d.size ≤ 12 := by omega
      have HL := Lib.hid hl
      clear hl hTT hF hFd hfs hD hB
      have n1 : ¬ 9223372036854775807 < F.size + d.size := by omega
      have n2 : ¬ 9223372036854775807 < B.size + 2 := by omega
      have n3 : ¬ 9223372036854775807 < B.size + 2 + D.size := by omega
      go_enter Try.func73, Try.ntmps73
      go_wp2_with fail
      refine (check_any o _ ho).mono ?_
      rintro e w1 ⟨rfl, hB1⟩
      rw [HK.out]
      go_wp2_with fail
      refine (open_any d _ hd).mono ?_
      rintro e w2 ⟨rfl, hB2⟩
      rw [HO.out, HB.out]
      have HBB := Lib.hid (hB1.trans (hB2.mono hB1.size))
      clear hB1 hB2
      go_wp2_with fail
      refine (CT.out _).mono ?_
      rintro e w3 ⟨rfl, rfl⟩
      go_wp2_with fail
      refine (CB.out _).mono ?_
      rintro e w4 ⟨rfl, hB4⟩
      have HB4 := Lib.hid (((HBB.out).alloc HBB.out.size _).trans (hB4.mono ((HBB.out).alloc HBB.out.size _).size)); clear hB4
      go_wp2_with fail
      refine (CF.out _).mono ?_
      rintro e w5 ⟨rfl, hB5⟩
      have HB5 := Lib.hid (HB4.out.trans (hB5.mono HB4.out.size)); clear hB5
      go_wp2_with fail
      refine (CD.out _).mono ?_
      rintro e w6 ⟨rfl, hB6⟩
      have HB6 := Lib.hid (HB5.out.trans (hB6.mono HB5.out.size)); clear hB6
      go_wp2_with fail
      go_ret2
      exact ⟨rfl, HB6.out⟩
  · have HK := Lib.hid (chk_no hN)
    have HN : Hid (R = ([], 1)) := Lib.hid (by rw [← HR.out, dsS, if_pos hN])
    clear hN
    go_enter Try.func73, Try.ntmps73
    go_wp2_with fail
    refine (check_any o _ ho).mono ?_
    rintro e w1 ⟨rfl, hB1⟩
    rw [HK.out]
    go_wp2_with fail
    go_ret2
    exact ⟨by rw [HN.out]; rfl, hB1⟩

set_option maxRecDepth 100000 in
set_option maxHeartbeats 2000000 in
theorem rds_any (o d : ByteArray) (w : World) (ho : o.size ≤ 1099511627776) (hd : d.size ≤ 1099511627776) :
    Calls Try.prog 74 #[.string o, .string d] w fun e w' => e = Ret2 (dsS o.data.toList d.data.toList) ∧ Below w.heap.size w w' := by
  obtain ⟨R, HR⟩ : ∃ R, Hid (dsS o.data.toList d.data.toList = R) := ⟨_, Lib.hid rfl⟩
  rw [HR.out]
  rcases isB_or o with ⟨ls, hN⟩ | hN
  · have HK := Lib.hid (isB_yes hN)
    have hfs := fold_size hN
    have hsp : split o.data.toList ≠ none := by rw [split_iff.2 hN]; simp
    clear hN
    obtain ⟨b, hb⟩ : ∃ b, isKeyB d.data.toList = b := ⟨_, rfl⟩
    obtain ⟨ka, kb, kc, ke, hO⟩ := open_form d.data.toList
    have HO := Lib.hid hO; clear hO
    cases b with
    | false =>
      have HN : Hid (R = ([], 24)) := Lib.hid (by rw [← HR.out, dsS, if_neg hsp, if_pos hb])
      have HB := Lib.hid hb
      clear hsp hb hfs
      go_enter Try.func74, Try.ntmps74
      go_wp2_with fail
      refine (isName_any o _ ho).mono ?_
      rintro e w1 ⟨rfl, hB1⟩
      rw [HK.out]
      go_wp2_with fail
      refine (isKey_any d _ hd).mono ?_
      rintro e w2 ⟨rfl, hB2⟩
      rw [HB.out]
      have HBB := Lib.hid (hB1.trans (hB2.mono hB1.size))
      clear hB1 hB2
      go_wp2_with fail
      go_ret2
      exact ⟨by rw [HN.out]; rfl, HBB.out⟩
    | true =>
      have hl : d.size = 12 := by rw [← size_len]; exact key_len hb
      have HN : Hid (R = (bigS (tagS d.data.toList) 2 ++ [253, 1] ++ digestS (foldS o.data.toList ++ d.data.toList), 0)) := Lib.hid (by rw [← HR.out, dsS, if_neg hsp, if_neg (by rw [hb]; simp)])
      have HB := Lib.hid hb
      have hT := tag_lt d.data.toList
      clear hsp hb
      obtain ⟨T, hTT⟩ : ∃ T, tagS d.data.toList = T := ⟨_, rfl⟩
      have CT := Lib.hid (fun w => rtag_any d w (by omega))
      rw [hTT] at CT hT HN
      have CB := Lib.hid (fun w => rbytes_any 2 T w (by omega) (by omega))
      have CF := Lib.hid (fun w => fold_any o w ho)
      obtain ⟨F, hF⟩ : ∃ F : ByteArray, (⟨(foldS o.data.toList).toArray⟩ : ByteArray) = F := ⟨_, rfl⟩
      have hFd : F.data.toList = foldS o.data.toList := by rw [← hF]
      have hFs : F.size ≤ 255 := by rw [← size_len, hFd]; exact hfs
      rw [hF] at CF
      have CD := Lib.hid (fun w => rdigest_any (F ++ d) w (by rw [ByteArray.size_append]; omega))
      rw [arr_app, hFd] at CD
      obtain ⟨D, hD⟩ : ∃ D : ByteArray, (⟨(digestS (foldS o.data.toList ++ d.data.toList)).toArray⟩ : ByteArray) = D := ⟨_, rfl⟩
      have hDs : D.size ≤ 10 := by rw [← hD, mk_size, digest_len]; exact Nat.le_refl _
      obtain ⟨B, hB⟩ : ∃ B : ByteArray, (⟨(bigS T 2).toArray⟩ : ByteArray) = B := ⟨_, rfl⟩
      have hBs : B.size ≤ 2 := by rw [← hB, mk_size, bigS_len]; exact Nat.le_refl _
      rw [hD] at CD
      rw [hB] at CB
      have HRR : Hid (Ret2 R = .returned (.tuple #[.string (B ++ ⟨#[253, 1]⟩ ++ D), .int .i64 0])) := Lib.hid (by
        rw [HN.out]; unfold Ret2
        have : (⟨(bigS T 2 ++ [253, 1] ++ digestS (foldS o.data.toList ++ d.data.toList)).toArray⟩ : ByteArray) = B ++ ⟨#[253, 1]⟩ ++ D := by rw [← hB, ← hD]; exact ba_ext (by simp)
        simp only [this])
      rw [HRR.out]
      have hdl : d.size ≤ 12 := by omega
      have HL := Lib.hid hl
      clear hl hTT hF hFd hfs hD hB
      have n1 : ¬ 9223372036854775807 < F.size + d.size := by omega
      have n2 : ¬ 9223372036854775807 < B.size + 2 := by omega
      have n3 : ¬ 9223372036854775807 < B.size + 2 + D.size := by omega
      go_enter Try.func74, Try.ntmps74
      go_wp2_with fail
      refine (isName_any o _ ho).mono ?_
      rintro e w1 ⟨rfl, hB1⟩
      rw [HK.out]
      go_wp2_with fail
      refine (isKey_any d _ hd).mono ?_
      rintro e w2 ⟨rfl, hB2⟩
      rw [HB.out]
      have HBB := Lib.hid (hB1.trans (hB2.mono hB1.size))
      clear hB1 hB2
      go_wp2_with fail
      refine (CT.out _).mono ?_
      rintro e w3 ⟨rfl, rfl⟩
      go_wp2_with fail
      refine (CB.out _).mono ?_
      rintro e w4 ⟨rfl, hB4⟩
      have HB4 := Lib.hid (HBB.out.trans (hB4.mono HBB.out.size)); clear hB4
      go_wp2_with fail
      refine (CF.out _).mono ?_
      rintro e w5 ⟨rfl, hB5⟩
      have HB5 := Lib.hid (HB4.out.trans (hB5.mono HB4.out.size)); clear hB5
      go_wp2_with fail
      refine (CD.out _).mono ?_
      rintro e w6 ⟨rfl, hB6⟩
      have HB6 := Lib.hid (HB5.out.trans (hB6.mono HB5.out.size)); clear hB6
      go_wp2_with fail
      go_ret2
      exact ⟨rfl, HB6.out⟩
  · have HK := Lib.hid (isB_no hN)
    have HN : Hid (R = ([], 1)) := Lib.hid (by rw [← HR.out, dsS, if_pos hN])
    clear hN
    go_enter Try.func74, Try.ntmps74
    go_wp2_with fail
    refine (isName_any o _ ho).mono ?_
    rintro e w1 ⟨rfl, hB1⟩
    rw [HK.out]
    go_wp2_with fail
    go_ret2
    exact ⟨by rw [HN.out]; rfl, hB1⟩
end Go.Proofs.Ytjflojefpaffeaa.ds
