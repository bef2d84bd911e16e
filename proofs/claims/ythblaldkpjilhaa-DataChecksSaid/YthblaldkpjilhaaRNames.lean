/- gazetteerref1.NamesIn: walk. -/
import Derived.Test.YthblaldkpjilhaaDNames
namespace Go.Proofs.Ythblaldkpjilhaa.rnames
open Go.RowKit Go.Proofs.Ythblaldkpjilhaa.kit Go.Proofs.Ythblaldkpjilhaa.nspec Go.Proofs.Ythblaldkpjilhaa.rsplit Go.Proofs.Ythblaldkpjilhaa.fld Go.Proofs.Ythblaldkpjilhaa.takes Go.Proofs.Ythblaldkpjilhaa.hostT Go.Proofs.Ythblaldkpjilhaa.splitD Go.Proofs.Ythblaldkpjilhaa.rsize Go.Proofs.Ythblaldkpjilhaa.rform Go.Proofs.Ythblaldkpjilhaa.parts Go.Proofs.Ythblaldkpjilhaa.checkData Go.Proofs.Ythblaldkpjilhaa.dnames
set_option linter.unusedVariables false

theorem check_holds {t : Int} {d : Bs} (hc : checkS t d = 0) : holdsB t = true := by
  unfold checkS at hc
  split at hc
  · simp at hc
  · rename_i h; cases hb : holdsB t with
    | true => rfl
    | false => exact absurd hb h
/-- the letter of a field, in the form's text -/
theorem letter_at {fs : List Fld} {F : ByteArray} (hF : F.data.toList = lettersB fs) (h4 : Fair4 fs) {k : Nat} {f : Fld} (hf : fs[k]? = some f) : ∃ (h : k < F.size), ((F[k].toNat : Int) == 110) = isHost f := by
  have hk : k < F.size := by
    have := (List.getElem?_eq_some_iff.1 hf).1
    rw [← size_len, hF]; simp [lettersB]; exact this
  refine ⟨hk, ?_⟩
  have h1 : F.data.toList[k]? = some (UInt8.ofNat (letterOf f)) := by rw [hF]; simp [lettersB, hf]
  have h2 := at_some hk (rfl : F[k] = F[k])
  rw [h1] at h2
  have h3 : UInt8.ofNat (letterOf f) = F[k] := by simpa using h2
  rw [← h3]
  cases f with
  | num j => rcases h4.2 j (List.mem_of_getElem? hf) with h | h | h <;> subst h <;> decide
  | _ => decide

set_option maxRecDepth 100000 in
set_option maxHeartbeats 8000000 in
theorem rnames_any (t : Int) (s : ByteArray) (w : World) (hs : s.size ≤ maxLen) :
    Calls Try.prog 26 #[.int .i64 t, .string s] w fun e w' => ∃ v, e = .returned v ∧ w'.ownsRow w.heap.size 9 1 v (namesS t s.data.toList).length ((namesS t s.data.toList).map strV) ∧ Below w.heap.size w w' := by
  obtain ⟨i0, hi, hz0, hz1, hz2⟩ := info_parts infoStr
  obtain ⟨R, HR⟩ : ∃ R, Hid (namesS t s.data.toList = R) := ⟨_, Lib.hid rfl⟩
  rw [HR.out]
  have CC := Lib.hid (fun w => rdcheck_any t s w hs)
  obtain ⟨C, hC⟩ : ∃ C, checkS t s.data.toList = C := ⟨_, rfl⟩
  rw [hC] at CC
  by_cases hc0 : C = 0
  · subst hc0
    have hls : s.size ≤ 65535 := by have := check_len hC; rwa [size_len] at this
    have CF := Lib.hid (fun w => rform_any t w)
    unfold FormIs at CF
    obtain ⟨F, hF⟩ : ∃ F : ByteArray, (⟨(formB t).toArray⟩ : ByteArray) = F := ⟨_, rfl⟩
    have hFd : F.data.toList = formB t := by rw [← hF]
    rw [hF] at CF
    cases hf : formS t with
    | none =>
      have HN : Hid (R = []) := Lib.hid (by rw [← HR.out, namesS, if_pos hC, hf])
      have h45 : (F.toList == [45]) = true := by rw [Lib.toList_data, hFd]; unfold formB; rw [hf, check_holds hC]; rfl
      clear hf hC hF hFd
      go_enter Try.func26, Try.ntmps26
      go_wp2_with fail
      refine (CC.out _).mono ?_
      rintro e w1 ⟨rfl, hB1⟩
      go_wp2_with fail
      refine (CF.out _).mono ?_
      rintro e w2 ⟨rfl, rfl⟩
      go_wp2_with fail
      go_ret
      exact ⟨_, rfl, by rw [HN.out]; exact World.ownsRow_nil _ _ _ _, hB1⟩
    | some fs =>
      obtain ⟨c1, c2⟩ := form_cons hf
      have hFl : F.data.toList = lettersB fs := by rw [hFd]; unfold formB; rw [hf]
      have h45 : (F.toList == [45]) = false := not45 (by rw [hFl]; exact c2)
      obtain ⟨p, hp1, hp2, hp3⟩ := parts_ok hC hf
      have HN : Hid (R = namesL fs p) := Lib.hid (by rw [← HR.out, namesS, if_pos hC, hf, hp1])
      obtain ⟨n, hn⟩ : ∃ n, fs.length = n := ⟨_, rfl⟩
      obtain ⟨hpl, hpx⟩ := parts_len _ _ _ _ hp2
      have hfa := form_fair4 hf
      have hn20 : n ≤ 20 := by rw [← hn]; exact hfa.1
      have CP := Lib.hid (fun w => parts_any fs F s w hFl hfa hls n hn)
      have HLE := Lib.hid (fun k f (h : fs[k]? = some f) => letter_at hFl hfa h)
      have HSP := Lib.hid hp2; have HNN := Lib.hid hn
      have HPL : Hid (p.length = n) := Lib.hid (by rw [hpl, hn])
      have HPX := Lib.hid hpx
      clear hf hC hp1 hp2 hp3 hpl hpx hfa hn hF hFd hFl c1 c2
      go_enter Try.func26, Try.ntmps26
      go_wp2_with fail
      refine (CC.out _).mono ?_
      rintro e w1 ⟨rfl, hB1⟩
      have HB1 := Lib.hid hB1; clear hB1
      go_wp2_with fail
      refine (CF.out _).mono ?_
      rintro e w2 ⟨rfl, rfl⟩
      go_wp2_with fail
      refine (CF.out _).mono ?_
      rintro e w2 ⟨rfl, rfl⟩
      go_wp2_with fail
      refine (CP.out _).mono ?_
      rintro e w3 ⟨hB3, ⟨v, p', r', hsp, rfl, hown⟩ | ⟨hsp, _⟩⟩
      case inr => rw [HSP.out] at hsp; simp at hsp
      rw [HSP.out] at hsp
      simp only [Option.some.injEq, Prod.mk.injEq] at hsp
      obtain ⟨rfl, rfl⟩ := hsp
      obtain ⟨a, c, rfl, hrd⟩ := Rd.of_own hown
      rw [HPL.out]
      have HRD := Lib.hid hrd
      have HBW : Hid (Below w.heap.size w w3) := Lib.hid (HB1.out.trans (hB3.mono HB1.out.size))
      clear hB3 hown hrd
      go_wp2_with fail
      go_loopg [5, 9, 30] (n + 1) (fun gas ov _ kv wr => ∃ (k : Nat) (A : List Bs), kv = .int .i64 k ∧ k ≤ n ∧ n + 1 ≤ k + gas ∧ A.length ≤ k ∧ Hid (A ++ namesL (fs.drop k) (p.drop k) = R) ∧ wr.ownsRow w3.heap.size 9 1 ov A.length (A.map strV) ∧ Below w3.heap.size w3 wr)
      case atStart => exact ⟨0, [], rfl, by omega, by omega, by simp, Lib.hid (by rw [HN.out]; simp), World.ownsRow_nil _ _ _ _, Below.refl _ _⟩
      case round =>
        obtain ⟨k, A, rfl, hk, hkg, hA, HW, hown, hB⟩ := hrel
        have HKG := Lib.hid hkg; clear hkg
        have HB := Lib.hid hB; clear hB
        by_cases hlt : k < n
        · obtain ⟨f, hfk⟩ : ∃ f, fs[k]? = some f := ⟨_, List.getElem?_eq_getElem (by have := HNN.out; omega)⟩
          obtain ⟨x, hxk⟩ : ∃ x, p[k]? = some x := ⟨_, List.getElem?_eq_getElem (by have := HPL.out; omega)⟩
          have HST := Lib.hid (names_go HW.out hfk hxk)
          obtain ⟨hkF, hlet⟩ := HLE.out k f hfk
          obtain ⟨g, o, rfl, _, hg, hcP0⟩ := HRD.out k x hxk
          have hcP := (HB.out.cell (p := ⟨g, o + k, none⟩) hg).trans hcP0
          unfold strV at hcP
          have HOWN := Lib.hid hown
          obtain ⟨b, hb⟩ : ∃ b, isHost f = b := ⟨_, rfl⟩
          have HBB := Lib.hid hb
          rw [hb] at hlet
          have hgw : g < wr.heap.size := Nat.lt_of_lt_of_le hg HB.out.size
          have hokF : (k : Int) < (F.size : Int) := by omega
          clear hcP0 hfk hxk hown hb
          cases b with
          | false =>
            have HST2 : Hid (A ++ namesL (fs.drop (k + 1)) (p.drop (k + 1)) = R) := Lib.hid (by have h := HST.out; rw [HBB.out] at h; simpa using h)
            go_wp2_with fail
            have hkg := HKG.out
            go_roundg (gk - 1)
            case rel => exact ⟨k + 1, A, by go_num, by omega, by omega, by omega, HST2, HOWN.out, HB.out⟩
            case measure => omega
          | true =>
            have HST2 : Hid ((A ++ [x]) ++ namesL (fs.drop (k + 1)) (p.drop (k + 1)) = R) := Lib.hid (by have h := HST.out; rw [HBB.out] at h; simpa using h)
            have hok : 0 ≤ (k : Int) := by omega
            have hown := HOWN.out
            have hB' := HB.out
            have hsz := hB'.size
            go_wp2_with (at_builtin; go_must (refine wpList_append_own _ rfl _ _ 29 rfl w3.heap.size 9 i0 (.string ByteArray.empty) 1 16 Try.underlying29 hi hz0 hz1 hz2 rfl (by decide) _ _ _ rfl (hown.alloc _) ⟨_, 0, none⟩ 1 1 [.string ⟨x.toArray⟩] rfl rfl ?c1 ?c2 ?c3 ?c4 ?c5 ?_))
            case c1 => exact cell_one_new _ _ _
            case c2 => simp [Value.oneCell']
            case c3 => unfold maxLen; omega
            case c4 => omega
            case c5 => simp; omega
            intro v' w6 hown' hgrow hnil
            have hown2 := own_snoc (x := .string ⟨x.toArray⟩) rfl hown'
            have hB6 := below_append hB' hsz hown hgrow
            clear hown' hgrow hown hnil
            go_wp2_with fail
            have hkg := HKG.out
            go_roundg (gk - 1)
            case rel => exact ⟨k + 1, A ++ [x], by go_num, by omega, by omega, by simp; omega, HST2, hown2, hB6⟩
            case measure => omega
        · have hke : k = n := by omega
          have HE : Hid (A = R) := Lib.hid (by
            have h := HW.out
            rw [List.drop_eq_nil_iff.2 (show fs.length ≤ k by have := HNN.out; omega)] at h
            simpa [namesL] using h)
          subst hke
          go_wp2_with fail
          go_ret
          refine ⟨_, rfl, ?_, HBW.out.trans (HB.out.mono HBW.out.size)⟩
          rw [← HE.out]
          exact own_mono hown HBW.out.size
  · have HN : Hid (R = []) := Lib.hid (by rw [← HR.out, namesS, if_neg (by rw [hC]; exact hc0)])
    have hb : (C != 0) = true := by rw [bne_iff_ne]; exact hc0
    clear hC hc0
    go_enter Try.func26, Try.ntmps26
    go_wp2_with fail
    refine (CC.out _).mono ?_
    rintro e w1 ⟨rfl, hB1⟩
    go_wp2_with fail
    go_ret
    exact ⟨_, rfl, by rw [HN.out]; exact World.ownsRow_nil _ _ _ _, hB1⟩
end Go.Proofs.Ythblaldkpjilhaa.rnames
