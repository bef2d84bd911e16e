/- The law DataChecks: walk. -/
import Derived.Test.YthblaldkpjilhaaRFold
import Derived.Test.YthblaldkpjilhaaNameParts
namespace Go.Proofs.Ythblaldkpjilhaa.dataChecks
open Go.RowKit Go.Proofs.Ythblaldkpjilhaa.kit Go.Proofs.Ythblaldkpjilhaa.nspec Go.Proofs.Ythblaldkpjilhaa.rsplit Go.Proofs.Ythblaldkpjilhaa.fld Go.Proofs.Ythblaldkpjilhaa.splitD Go.Proofs.Ythblaldkpjilhaa.dcheck Go.Proofs.Ythblaldkpjilhaa.checkData Go.Proofs.Ythblaldkpjilhaa.dnames Go.Proofs.Ythblaldkpjilhaa.rnames Go.Proofs.Ythblaldkpjilhaa.dfold Go.Proofs.Ythblaldkpjilhaa.rfold Go.Proofs.Ythblaldkpjilhaa.star Go.Proofs.Ythblaldkpjilhaa.nparts
set_option linter.unusedVariables false

theorem names_len (t : Int) (d : Bs) : (namesS t d).length ≤ 20 := by
  have hl : ∀ (fs : List Fld) (p : List Bs), (namesL fs p).length ≤ fs.length := by
    intro fs
    induction fs with
    | nil => intro p; simp [namesL]
    | cons f fs ih =>
      intro p
      cases p with
      | nil => simp [namesL]
      | cons x p =>
        have := ih p
        simp only [namesL]
        split
        · simp only [List.length_cons]; omega
        · simp only [List.length_cons]; omega
  unfold namesS
  split
  · cases hf : formS t with
    | none => simp
    | some fs =>
      cases hp : partsS t d with
      | none => simp
      | some p =>
        have := hl fs p
        have := (form_fair hf).1
        simp only; omega
  · simp

set_option maxRecDepth 100000 in
set_option maxHeartbeats 4000000 in
theorem law (t : Int) (s : ByteArray) (w : World) (ht : (Lit.int .i64 t).wf = true) (hs : s.size ≤ maxLen) :
    Calls Try.prog 4 #[.int .i64 t, .string s] w fun e w' => e = .returned (.bool true) ∧ Below w.heap.size w w' := by
  clear ht
  obtain ⟨L, hL⟩ : ∃ L, namesS t s.data.toList = L := ⟨_, rfl⟩
  have hLl : L.length ≤ 20 := by rw [← hL]; exact names_len _ _
  have C1 := Lib.hid (fun w => names_any t s w hs)
  have C2 := Lib.hid (fun w => rnames_any t s w hs)
  rw [hL] at C1 C2
  obtain ⟨n, hn⟩ : ∃ n, L.length = n := ⟨_, rfl⟩
  have hn20 : n ≤ 20 := by omega
  obtain ⟨K, hK⟩ : ∃ K, checkS t s.data.toList = K := ⟨_, rfl⟩
  have C3 := Lib.hid (fun w => dcheck_any t s w hs)
  have C4 := Lib.hid (fun w => rdcheck_any t s w hs)
  rw [hK] at C3 C4
  obtain ⟨D, hD⟩ : ∃ D : ByteArray, (⟨(foldDS t s.data.toList).toArray⟩ : ByteArray) = D := ⟨_, rfl⟩
  have C5 := Lib.hid (fun w => dfold_any t s w hs)
  have C6 := Lib.hid (fun w => rfold_any t s w hs)
  rw [hD] at C5 C6
  have HN := Lib.hid hn
  clear hL hLl hn hK hD
  go_enter Try.func4, Try.ntmps4
  go_wp2_with fail
  refine (C1.out _).mono ?_
  rintro e w1 ⟨v1, rfl, hown1, hB1⟩
  obtain ⟨a1, c1, rfl, hc1, hr1, hw1⟩ := row_rd hown1
  rw [HN.out] at hc1 hw1 ⊢
  have HR1 := Lib.hid hr1; have HW1 := Lib.hid hw1
  have HB1 := Lib.hid hB1
  clear hown1 hr1 hw1 hB1
  go_wp2_with fail
  refine (C2.out _).mono ?_
  rintro e w2 ⟨v2, rfl, hown2, hB2⟩
  obtain ⟨a2, c2, rfl, hr2⟩ := Rd.of_own hown2
  rw [HN.out]
  have HR1b := Lib.hid (HR1.out.below hB2 rfl)
  have HW1b := Lib.hid (HW1.out.below hB2)
  have HR2 := Lib.hid hr2
  have HB2 := Lib.hid (HB1.out.trans (hB2.mono HB1.out.size))
  clear hown2 hr2 hB2
  have CS := Lib.hid (same_any a1 a2 n n c1 c2 L L w2 HN.out.symm HN.out.symm HR1b.out (HR2.out.mono (Nat.zero_le _)) (by omega) (by omega))
  rw [decide_eq_true rfl] at CS
  go_wp2_with fail
  refine CS.out.mono ?_
  rintro e w3 ⟨rfl, hB3⟩
  have HW1c := Lib.hid (HW1b.out.below hB3)
  have HR2c := Lib.hid (HR2.out.below hB3 rfl)
  have HB3 := Lib.hid (HB2.out.trans (hB3.mono HB2.out.size))
  clear hB3
  go_wp2_with fail
  go_loopg [7, 20] (n + 1) (fun gas _ kv wr => ∃ (j : Nat), kv = .int .i64 j ∧ j ≤ n ∧ n + 1 ≤ j + gas ∧ Hid (Rd wr a2 w1.heap.size L) ∧ Hid (Wr wr a1 w.heap.size w1.heap.size n) ∧ Hid (Below w.heap.size w wr))
  case atStart => exact ⟨0, rfl, by omega, by omega, HR2c, HW1c, HB3⟩
  case round =>
    clear HR2c HW1c HB3
    obtain ⟨j, rfl, hj, hjg, HRr, HWr, HBr⟩ := hrel
    have HJ := Lib.hid hjg; clear hjg
    by_cases hjt : j < n
    · obtain ⟨g, rfl, hg1, hg2, ⟨u, hu⟩, hfz⟩ := HWr.out.at_ hjt
      have HS := Lib.hid (HWr.out.set j (.string ⟨#[63]⟩))
      have HT := Lib.hid (rd_set HRr.out hg2 j (.string ⟨#[63]⟩))
      have HBs := Lib.hid (HBr.out.setCell (p := ⟨g, j, none⟩) hg1 (.string ⟨#[63]⟩))
      go_wp2_with fail
      have hjg := HJ.out
      go_roundg (gk - 1)
      case rel => exact ⟨j + 1, by go_num, by omega, by omega, HT, HS, HBs⟩
      case measure => omega
    · go_wp2_with fail
      refine (C1.out _).mono ?_
      rintro e w5 ⟨v5, rfl, hown5, hB5⟩
      obtain ⟨a5, c5, rfl, hc5, hr5, _⟩ := row_rd hown5
      rw [HN.out] at hc5 ⊢
      have HB5 := Lib.hid (HBr.out.trans (hB5.mono HBr.out.size))
      have CS2 := Lib.hid (same_any a5 a2 n n c5 c2 L L w5 HN.out.symm HN.out.symm hr5 ((HRr.out.mono (Nat.zero_le _)).below hB5 rfl) (by omega) (by omega))
      rw [decide_eq_true rfl] at CS2
      clear hown5 hr5 hB5
      go_wp2_with fail
      refine CS2.out.mono ?_
      rintro e w6 ⟨rfl, hB6⟩
      have HB6 := Lib.hid (HB5.out.trans (hB6.mono HB5.out.size)); clear hB6
      go_wp2_with fail
      refine (C3.out _).mono ?_
      rintro e w7 ⟨rfl, hB7⟩
      have HB7 := Lib.hid (HB6.out.trans (hB7.mono HB6.out.size)); clear hB7
      go_wp2_with fail
      refine (C4.out _).mono ?_
      rintro e w8 ⟨rfl, hB8⟩
      have HB8 := Lib.hid (HB7.out.trans (hB8.mono HB7.out.size)); clear hB8
      go_wp2_with fail
      refine (C5.out _).mono ?_
      rintro e w9 ⟨rfl, hB9⟩
      have HB9 := Lib.hid (HB8.out.trans (hB9.mono HB8.out.size)); clear hB9
      go_wp2_with fail
      refine (C6.out _).mono ?_
      rintro e wa ⟨rfl, hBa⟩
      have HBa := Lib.hid (HB9.out.trans (hBa.mono HB9.out.size)); clear hBa
      go_wp2_with fail
      go_ret
      exact ⟨rfl, HBa.out⟩
end Go.Proofs.Ythblaldkpjilhaa.dataChecks
