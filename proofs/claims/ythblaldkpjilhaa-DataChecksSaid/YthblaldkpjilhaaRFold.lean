/- gazetteerref1.FoldData: walk. -/
import Derived.Test.YthblaldkpjilhaaDFold
import Derived.Test.YthblaldkpjilhaaRNames
namespace Go.Proofs.Ythblaldkpjilhaa.rfold
open Go.RowKit Go.Proofs.Ythblaldkpjilhaa.kit Go.Proofs.Ythblaldkpjilhaa.nspec Go.Proofs.Ythblaldkpjilhaa.rsplit Go.Proofs.Ythblaldkpjilhaa.fld Go.Proofs.Ythblaldkpjilhaa.splitD Go.Proofs.Ythblaldkpjilhaa.rsize Go.Proofs.Ythblaldkpjilhaa.rform Go.Proofs.Ythblaldkpjilhaa.parts Go.Proofs.Ythblaldkpjilhaa.checkData Go.Proofs.Ythblaldkpjilhaa.dnames Go.Proofs.Ythblaldkpjilhaa.rnames Go.Proofs.Ythblaldkpjilhaa.dfold Go.Proofs.Ythblaldkpjilhaa.refA
set_option linter.unusedVariables false

set_option maxRecDepth 100000 in
set_option maxHeartbeats 8000000 in
theorem rfold_any (t : Int) (s : ByteArray) (w : World) (hs : s.size ≤ maxLen) :
    Calls Try.prog 31 #[.int .i64 t, .string s] w fun e w' => e = .returned (.string ⟨(foldDS t s.data.toList).toArray⟩) ∧ Below w.heap.size w w' := by
  obtain ⟨R, HR⟩ : ∃ R, Hid (foldDS t s.data.toList = R) := ⟨_, Lib.hid rfl⟩
  rw [HR.out]
  have CC := Lib.hid (fun w => rdcheck_any t s w hs)
  obtain ⟨C, hC⟩ : ∃ C, checkS t s.data.toList = C := ⟨_, rfl⟩
  rw [hC] at CC
  by_cases hc0 : C = 0
  · subst hc0
    have hls : s.size ≤ 65535 := by have := check_len hC; rwa [size_len] at this
    have CF := Lib.hid (fun w => rform_any t w)
    unfold FormIs at CF
    obtain ⟨F, hF⟩ : ∃ F : ByteArray, (⟨(formB t).toArray⟩ : ByteArray) = F := ⟨_, rfl⟩
    have hFd : F.data.toList = formB t := by rw [← hF]
    rw [hF] at CF
    cases hf : formS t with
    | none =>
      have HN : Hid ((⟨R.toArray⟩ : ByteArray) = s) := Lib.hid (by rw [← HR.out, foldDS, if_pos hC, hf])
      have h45 : (F.toList == [45]) = true := by rw [Lib.toList_data, hFd]; unfold formB; rw [hf, check_holds hC]; rfl
      clear hf hC hF hFd
      go_enter Try.func31, Try.ntmps31
      go_wp2_with fail
      refine (CC.out _).mono ?_
      rintro e w1 ⟨rfl, hB1⟩
      have HB1 := Lib.hid hB1; clear hB1
      go_wp2_with fail
      refine (CF.out _).mono ?_
      rintro e w2 ⟨rfl, rfl⟩
      go_wp2_with fail
      refine (CC.out _).mono ?_
      rintro e w3 ⟨rfl, hB3⟩
      have HB3 := Lib.hid (HB1.out.trans (hB3.mono HB1.out.size)); clear hB3
      go_wp2_with fail
      go_ret
      exact ⟨by rw [HN.out]; rfl, HB3.out⟩
    | some fs =>
      obtain ⟨c1, c2⟩ := form_cons hf
      have hFl : F.data.toList = lettersB fs := by rw [hFd]; unfold formB; rw [hf]
      have h45 : (F.toList == [45]) = false := not45 (by rw [hFl]; exact c2)
      obtain ⟨p, hp1, hp2, hp3⟩ := parts_ok hC hf
      have HN : Hid (R = foldL fs p) := Lib.hid (by rw [← HR.out, foldDS, if_pos hC, hf, hp1])
      obtain ⟨n, hn⟩ : ∃ n, fs.length = n := ⟨_, rfl⟩
      obtain ⟨hpl, hpx⟩ := parts_len _ _ _ _ hp2
      have hfa := form_fair4 hf
      have hn20 : n ≤ 20 := by rw [← hn]; exact hfa.1
      have CP := Lib.hid (fun w => parts_any fs F s w hFl hfa hls n hn)
      have HLE := Lib.hid (fun k f (h : fs[k]? = some f) => letter_at hFl hfa h)
      have HSP := Lib.hid hp2; have HNN := Lib.hid hn
      have HPL : Hid (p.length = n) := Lib.hid (by rw [hpl, hn])
      have HPX := Lib.hid hpx
      clear hf hC hp1 hp2 hp3 hpl hpx hfa hn hF hFd hFl c1 c2
      go_enter Try.func31, Try.ntmps31
      go_wp2_with fail
      refine (CC.out _).mono ?_
      rintro e w1 ⟨rfl, hB1⟩
      have HB1 := Lib.hid hB1; clear hB1
      go_wp2_with fail
      refine (CF.out _).mono ?_
      rintro e w2 ⟨rfl, rfl⟩
      go_wp2_with fail
      refine (CF.out _).mono ?_
      rintro e w2 ⟨rfl, rfl⟩
      go_wp2_with fail
      refine (CP.out _).mono ?_
      rintro e w3 ⟨hB3, ⟨v, p', r', hsp, rfl, hown⟩ | ⟨hsp, _⟩⟩
      case inr => rw [HSP.out] at hsp; simp at hsp
      rw [HSP.out] at hsp
      simp only [Option.some.injEq, Prod.mk.injEq] at hsp
      obtain ⟨rfl, rfl⟩ := hsp
      obtain ⟨a, c, rfl, hrd⟩ := Rd.of_own hown
      rw [HPL.out]
      have HRD := Lib.hid hrd
      have HBW : Hid (Below w.heap.size w w3) := Lib.hid (HB1.out.trans (hB3.mono HB1.out.size))
      clear hB3 hown hrd
      go_wp2_with fail
      go_loopg [8, 9, 34] (n + 1) (fun gas sv _ kv wr => ∃ (k : Nat) (S : ByteArray), kv = .int .i64 k ∧ sv = .string S ∧ k ≤ n ∧ n + 1 ≤ k + gas ∧ S.size ≤ 65535 * k ∧ Hid (S.data.toList ++ foldL (fs.drop k) (p.drop k) = R) ∧ Below w3.heap.size w3 wr)
      case atStart => exact ⟨0, ⟨#[]⟩, rfl, rfl, by omega, by omega, Nat.zero_le _, Lib.hid (by rw [HN.out, List.drop_zero, List.drop_zero]; rfl), Below.refl _ _⟩
      case round =>
        obtain ⟨k, S, rfl, rfl, hk, hkg, hA, HW, hB⟩ := hrel
        have HKG := Lib.hid hkg; clear hkg
        have HB := Lib.hid hB; clear hB
        by_cases hlt : k < n
        · obtain ⟨f, hfk⟩ : ∃ f, fs[k]? = some f := ⟨_, List.getElem?_eq_getElem (by have := HNN.out; omega)⟩
          obtain ⟨x, hxk⟩ : ∃ x, p[k]? = some x := ⟨_, List.getElem?_eq_getElem (by have := HPL.out; omega)⟩
          have hxs := HPX.out x (List.mem_of_getElem? hxk)
          rw [size_len] at hxs
          have hx65 : x.length ≤ 65535 := by omega
          have HST := Lib.hid (fold_go HW.out hfk hxk)
          obtain ⟨hkF, hlet⟩ := HLE.out k f hfk
          obtain ⟨g, o, rfl, _, hg, hcP0⟩ := HRD.out k x hxk
          have hcP := (HB.out.cell (p := ⟨g, o + k, none⟩) hg).trans hcP0
          unfold strV at hcP
          obtain ⟨X, hX⟩ : ∃ X : ByteArray, (⟨x.toArray⟩ : ByteArray) = X := ⟨_, rfl⟩
          have hXd : X.data.toList = x := by rw [← hX]
          have hXs : X.size ≤ 65535 := by rw [← size_len, hXd]; exact hx65
          rw [hX] at hcP
          obtain ⟨b, hb⟩ : ∃ b, isHost f = b := ⟨_, rfl⟩
          have HON : Hid (foldOne f x = if b then foldS x else x) := Lib.hid (by unfold foldOne; rw [hb])
          rw [hb] at hlet
          have hgw : g < wr.heap.size := Nat.lt_of_lt_of_le hg HB.out.size
          have hokF : (k : Int) < (F.size : Int) := by omega
          have hok : 0 ≤ (k : Int) := by omega
          clear hcP0 hfk hxk hb hxs hX
          cases b with
          | false =>
            have HST2 : Hid ((S ++ X).data.toList ++ foldL (fs.drop (k + 1)) (p.drop (k + 1)) = R) := Lib.hid (by have h := HST.out; rw [HON.out] at h; simpa [hXd] using h)
            have hsum : (S ++ X).size ≤ 65535 * (k + 1) := by rw [ByteArray.size_append]; omega
            have HSUM := Lib.hid hsum
            clear hXd hsum
            go_wp2_with fail
            have hkg := HKG.out
            go_roundg (gk - 1)
            case rel => exact ⟨k + 1, S ++ X, by go_num, rfl, by omega, by omega, HSUM.out, HST2, HB.out⟩
            case measure => omega
          | true =>
            have CN := Lib.hid (fun w => fold_any X w (by omega))
            rw [hXd] at CN
            have hfl := fold_short x
            obtain ⟨D, hD⟩ : ∃ D : ByteArray, (⟨(foldS x).toArray⟩ : ByteArray) = D := ⟨_, rfl⟩
            have hDd : D.data.toList = foldS x := by rw [← hD]
            have hDs : D.size ≤ 255 := by rw [← size_len, hDd]; exact hfl
            rw [hD] at CN
            have HST2 : Hid ((S ++ D).data.toList ++ foldL (fs.drop (k + 1)) (p.drop (k + 1)) = R) := Lib.hid (by have h := HST.out; rw [HON.out] at h; simpa [hDd] using h)
            have hsum : (S ++ D).size ≤ 65535 * (k + 1) := by rw [ByteArray.size_append]; omega
            have HSUM := Lib.hid hsum
            clear hXd hD hDd hfl hsum
            go_wp2_with fail
            refine (CN.out _).mono ?_
            rintro e w5 ⟨rfl, hB5⟩
            have HB5 := Lib.hid (HB.out.trans (hB5.mono HB.out.size))
            clear hB5 hcP
            go_wp2_with fail
            have hkg := HKG.out
            go_roundg (gk - 1)
            case rel => exact ⟨k + 1, S ++ D, by go_num, rfl, by omega, by omega, HSUM.out, HST2, HB5.out⟩
            case measure => omega
        · have hke : k = n := by omega
          have HE : Hid ((⟨R.toArray⟩ : ByteArray) = S) := Lib.hid (by
            have h := HW.out
            rw [List.drop_eq_nil_iff.2 (show fs.length ≤ k by have := HNN.out; omega)] at h
            have e : S.data.toList = R := by simpa [foldL] using h
            rw [← e])
          subst hke
          go_wp2_with fail
          go_ret
          exact ⟨by rw [HE.out]; rfl, HBW.out.trans (HB.out.mono HBW.out.size)⟩
  · have HN : Hid (R = []) := Lib.hid (by rw [← HR.out, foldDS, if_neg (by rw [hC]; exact hc0)])
    have hb : (C != 0) = true := by rw [bne_iff_ne]; exact hc0
    have hb2 : (C == 0) = false := by rw [beq_eq_false_iff_ne]; exact hc0
    clear hC hc0
    go_enter Try.func31, Try.ntmps31
    go_wp2_with fail
    refine (CC.out _).mono ?_
    rintro e w1 ⟨rfl, hB1⟩
    have HB1 := Lib.hid hB1; clear hB1
    go_wp2_with fail
    refine (CC.out _).mono ?_
    rintro e w2 ⟨rfl, hB2⟩
    have HB2 := Lib.hid (HB1.out.trans (hB2.mono HB1.out.size)); clear hB2
    go_wp2_with fail
    go_ret
    exact ⟨by first | (rw [HN.out]; done) | (rw [HN.out]; rfl), HB2.out⟩
end Go.Proofs.Ythblaldkpjilhaa.rfold
