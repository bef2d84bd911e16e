/- data.Fold: walk. -/
import Derived.Test.YthblaldkpjilhaaDNames
import Derived.Test.YthblaldkpjilhaaBuilder
import Derived.Test.YthblaldkpjilhaaNameB
namespace Go.Proofs.Ythblaldkpjilhaa.dfold
open Go.RowKit Go.Proofs.Ythblaldkpjilhaa.kit Go.Proofs.Ythblaldkpjilhaa.nspec Go.Proofs.Ythblaldkpjilhaa.rsplit Go.Proofs.Ythblaldkpjilhaa.fld Go.Proofs.Ythblaldkpjilhaa.formW Go.Proofs.Ythblaldkpjilhaa.splitD Go.Proofs.Ythblaldkpjilhaa.dcheck Go.Proofs.Ythblaldkpjilhaa.dnames Go.Proofs.Ythblaldkpjilhaa.nread Go.Proofs.Ythblaldkpjilhaa.bld Go.Proofs.Ythblaldkpjilhaa.refA Go.Proofs.Ythblaldkpjilhaa.nameB
set_option linter.unusedVariables false

def foldOne (f : Fld) (x : Bs) : Bs := if isHost f then foldS x else x
def foldL : List Fld → List Bs → Bs
  | f :: fs, x :: p => foldOne f x ++ foldL fs p
  | _, _ => []
def foldDS (t : Int) (d : Bs) : Bs := if checkS t d = 0 then (match formS t, partsS t d with | some fs, some p => foldL fs p | _, _ => d) else []
theorem fold_short (x : Bs) : (foldS x).length ≤ 255 := by
  cases h : split x with
  | none => unfold foldS; rw [h]; simp
  | some ls =>
    have hN := split_iff.1 h
    have hr := isN_room hN
    rw [foldS_yes hN, put_length, room_low]; omega
theorem one_len {f : Fld} {x : Bs} (h : x.length ≤ 65535) : (foldOne f x).length ≤ 65535 := by
  unfold foldOne; split
  · have := fold_short x; omega
  · exact h
theorem fold_go {A R : Bs} {fs : List Fld} {p : List Bs} {k : Nat} {f : Fld} {x : Bs} (h : A ++ foldL (fs.drop k) (p.drop k) = R) (hf : fs[k]? = some f) (hx : p[k]? = some x) : (A ++ foldOne f x) ++ foldL (fs.drop (k + 1)) (p.drop (k + 1)) = R := by
  obtain ⟨h1, h2⟩ := List.getElem?_eq_some_iff.1 hf
  obtain ⟨h3, h4⟩ := List.getElem?_eq_some_iff.1 hx
  rw [List.drop_eq_getElem_cons h1, h2, List.drop_eq_getElem_cons h3, h4, foldL] at h
  rw [← h]; simp

set_option maxRecDepth 100000 in
set_option maxHeartbeats 8000000 in
theorem dfold_any (t : Int) (s : ByteArray) (w : World) (hs : s.size ≤ maxLen) :
    Calls Try.prog 30 #[.int .i64 t, .string s] w fun e w' => e = .returned (.string ⟨(foldDS t s.data.toList).toArray⟩) ∧ Below w.heap.size w w' := by
  obtain ⟨R, HR⟩ : ∃ R, Hid (foldDS t s.data.toList = R) := ⟨_, Lib.hid rfl⟩
  rw [HR.out]
  have CC := Lib.hid (fun w => dcheck_any t s w hs)
  obtain ⟨C, hC⟩ : ∃ C, checkS t s.data.toList = C := ⟨_, rfl⟩
  rw [hC] at CC
  by_cases hc0 : C = 0
  · subst hc0
    have hls : s.size ≤ 65535 := by have := check_len hC; rwa [size_len] at this
    cases hf : formS t with
    | none =>
      have HN : Hid ((⟨R.toArray⟩ : ByteArray) = s) := Lib.hid (by rw [← HR.out, foldDS, if_pos hC, hf])
      have CF := Lib.hid (fun w => form_no t w hf)
      have CL := Lib.hid (fun w => clone_any s w (by omega))
      clear hf hC
      go_enter Try.func30, Try.ntmps30
      go_wp2_with fail
      refine (CC.out _).mono ?_
      rintro e w1 ⟨rfl, hB1⟩
      have HB1 := Lib.hid hB1; clear hB1
      go_wp2_with fail
      refine (CF.out _).mono ?_
      rintro e w2 ⟨rfl, rfl⟩
      go_wp2_with fail
      refine (CL.out _).mono ?_
      rintro e w3 ⟨rfl, hB3⟩
      have HB3 := Lib.hid (HB1.out.trans (hB3.mono HB1.out.size)); clear hB3
      go_wp2_with fail
      go_ret
      exact ⟨by rw [HN.out]; rfl, HB3.out⟩
    | some fs =>
      obtain ⟨p, hp1, hp2, hp3⟩ := parts_ok hC hf
      have HN : Hid (R = foldL fs p) := Lib.hid (by rw [← HR.out, foldDS, if_pos hC, hf, hp1])
      obtain ⟨n, hn⟩ : ∃ n, fs.length = n := ⟨_, rfl⟩
      obtain ⟨hpl, hpx⟩ := parts_len _ _ _ _ hp2
      have CF := Lib.hid (fun w => form_yes t fs w hf)
      unfold FormPost at CF
      rw [hn] at CF
      have hfa := form_fair hf
      have hn20 : n ≤ 20 := by rw [← hn]; exact hfa.1
      have CS := Lib.hid (fun w => split_any fs w.heap.size s (w.alloc (fieldsO fs)) (fields_rd fs w) (by rw [World.size_alloc]; omega) hfa hls n hn)
      have HSP := Lib.hid hp2; have HNN := Lib.hid hn
      have HPL : Hid (p.length = n) := Lib.hid (by rw [hpl, hn])
      have HPX := Lib.hid hpx
      clear hf hC hp1 hp2 hp3 hpl hpx hfa hn
      go_enter Try.func30, Try.ntmps30
      go_wp2_with fail
      refine (CC.out _).mono ?_
      rintro e w1 ⟨rfl, hB1⟩
      have HB1 := Lib.hid hB1; clear hB1
      go_wp2_with fail
      refine (CF.out _).mono ?_
      rintro e w2 ⟨rfl, rfl⟩
      go_wp2_with fail
      refine (CS.out _).mono ?_
      rintro e w3 ⟨hB3, ⟨v, p', r', hsp, rfl, hown⟩ | ⟨hsp, _⟩⟩
      case inr => rw [HSP.out] at hsp; simp at hsp
      rw [HSP.out] at hsp
      simp only [Option.some.injEq, Prod.mk.injEq] at hsp
      obtain ⟨rfl, rfl⟩ := hsp
      obtain ⟨a, c, rfl, hrd⟩ := Rd.of_own hown
      rw [HPL.out]
      have HRD := Lib.hid hrd
      have HB3 := Lib.hid hB3
      have HRF : Hid (RdF w3 w1.heap.size fs) := Lib.hid (fun j f hj => (HB3.out.cell (p := ⟨w1.heap.size, j, none⟩) (by rw [World.size_alloc]; exact Nat.lt_succ_self _)).trans (fields_rd fs w1 j f hj))
      have hz3 : w1.heap.size < w3.heap.size := by have := HB3.out.size; rw [World.size_alloc] at this; omega
      have HBW : Hid (Below w.heap.size w w3) := Lib.hid (by
        have g1 := HB1.out.alloc HB1.out.size (fieldsO fs)
        exact g1.trans (HB3.out.mono g1.size))
      clear hB3 hown hrd
      have HFB : Hid (Bld w3.heap.size w3.heap.size [] (w3.alloc (.cells #[.pointer none, .slice none 0 0] 101))) := Lib.hid (Lib.fresh_isBuilder 101 5 w3)
      have HBb := Lib.hid ((Below.refl w3.heap.size w3).alloc (Nat.le_refl _) (.cells #[.pointer none, .slice none 0 0] 101))
      go_wp2_with fail
      go_loopg [35] (n + 1) (fun gas kv wr => ∃ (k : Nat) (A : Bs), kv = .int .i64 k ∧ k ≤ n ∧ n + 1 ≤ k + gas ∧ A.length ≤ 65535 * k ∧ Hid (A ++ foldL (fs.drop k) (p.drop k) = R) ∧ Hid (Bld w3.heap.size w3.heap.size A wr) ∧ Hid (Below w3.heap.size w3 wr))
      case atStart => exact ⟨0, [], rfl, by omega, by omega, by simp, Lib.hid (by rw [HN.out]; simp), HFB, HBb⟩
      case round =>
        clear HFB HBb
        obtain ⟨k, A, rfl, hk, hkg, hA, HW, HBD, HB⟩ := hrel
        have HKG := Lib.hid hkg; clear hkg
        have hsz := HB.out.size
        by_cases hlt : k < n
        · obtain ⟨f, hfk⟩ : ∃ f, fs[k]? = some f := ⟨_, List.getElem?_eq_getElem (by have := HNN.out; omega)⟩
          obtain ⟨x, hxk⟩ : ∃ x, p[k]? = some x := ⟨_, List.getElem?_eq_getElem (by have := HPL.out; omega)⟩
          have hxs := HPX.out x (List.mem_of_getElem? hxk)
          rw [size_len] at hxs
          have hx65 : x.length ≤ 65535 := by omega
          have HST := Lib.hid (fold_go HW.out hfk hxk)
          have hcF := (HB.out.cell (p := ⟨w1.heap.size, k, none⟩) hz3).trans (HRF.out k f hfk)
          obtain ⟨g, o, rfl, _, hg, hcP0⟩ := HRD.out k x hxk
          have hcP := (HB.out.cell (p := ⟨g, o + k, none⟩) hg).trans hcP0
          unfold strV at hcP
          have hgw : g < wr.heap.size := Nat.lt_of_lt_of_le hg hsz
          obtain ⟨fv, hfv⟩ : ∃ fv, fldV f = fv := ⟨_, rfl⟩
          have hta := asked f
          rw [hfv] at hcF hta
          obtain ⟨b, hb⟩ : ∃ b, isHost f = b := ⟨_, rfl⟩
          rw [hb] at hta
          have HON : Hid (foldOne f x = if b then foldS x else x) := Lib.hid (by unfold foldOne; rw [hb])
          have hok : 0 ≤ (k : Int) := by omega
          have hBal := (Below.refl wr.heap.size wr).alloc (Nat.le_refl _) (.cells #[] 120)
          have HBD2 := Lib.hid (bld_below HBD.out hBal)
          have HB2 := Lib.hid (HB.out.trans (hBal.mono hsz))
          have hsz2 := HB2.out.size
          have hl1 := one_len (f := f) hx65
          have HL1 := Lib.hid hl1
          clear hcP0 hfk hxk hfv hb hBal hxs hl1
          cases b with
          | false =>
            have HST2 : Hid ((A ++ x) ++ foldL (fs.drop (k + 1)) (p.drop (k + 1)) = R) := Lib.hid (by have h := HST.out; rw [HON.out] at h; simpa using h)
            have CW := Lib.hid (ws w3.heap.size w3.heap.size A ⟨x.toArray⟩ _ HBD2.out (by rw [mk_size]; omega) hsz2)
            rw [mk_data] at CW
            go_wp2_with fail
            refine CW.out.mono ?_
            rintro e w5 ⟨rfl, hb5, hB5⟩
            have HB5 := Lib.hid (HB2.out.trans hB5)
            have HBD5 := Lib.hid hb5
            clear hB5 hb5
            go_wp2_with fail
            have hkg := HKG.out
            go_roundg (gk - 1)
            case rel => exact ⟨k + 1, A ++ x, by go_num, by omega, by omega, by simp; omega, HST2, HBD5, HB5⟩
            case measure => omega
          | true =>
            have HST2 : Hid ((A ++ foldS x) ++ foldL (fs.drop (k + 1)) (p.drop (k + 1)) = R) := Lib.hid (by have h := HST.out; rw [HON.out] at h; simpa using h)
            have CN := Lib.hid (fun w => nfold_any ⟨x.toArray⟩ w (by rw [mk_size]; omega))
            rw [mk_data] at CN
            have hfl := fold_short x
            obtain ⟨D, hD⟩ : ∃ D : ByteArray, (⟨(foldS x).toArray⟩ : ByteArray) = D := ⟨_, rfl⟩
            have hDd : D.data.toList = foldS x := by rw [← hD]
            have hDs : D.size ≤ 255 := by rw [← size_len, hDd]; exact hfl
            rw [hD] at CN
            rw [← hDd] at HST2
            clear hD hDd hfl
            go_wp2_with fail
            refine (CN.out _).mono ?_
            rintro e w5 ⟨rfl, hB5⟩
            have HBD5 := Lib.hid (bld_below HBD2.out hB5)
            have HB5 := Lib.hid (HB2.out.trans (hB5.mono hsz2))
            have hsz5 := HB5.out.size
            have CW := Lib.hid (ws w3.heap.size w3.heap.size A D _ HBD5.out (by omega) hsz5)
            clear hB5
            go_wp2_with fail
            refine CW.out.mono ?_
            rintro e w6 ⟨rfl, hb6, hB6⟩
            have HB6 := Lib.hid (HB5.out.trans hB6)
            have HBD6 := Lib.hid hb6
            clear hB6 hb6
            go_wp2_with fail
            have hkg := HKG.out
            go_roundg (gk - 1)
            case rel => exact ⟨k + 1, A ++ D.data.toList, by go_num, by omega, by omega, by rw [List.length_append, size_len]; omega, HST2, HBD6, HB6⟩
            case measure => omega
        · have hke : k = n := by omega
          have HE : Hid (A = R) := Lib.hid (by
            have h := HW.out
            rw [List.drop_eq_nil_iff.2 (show fs.length ≤ k by have := HNN.out; omega)] at h
            simpa [foldL] using h)
          subst hke
          go_wp2_with fail
          refine (Try.Builder_String_any _ _ A _ HBD.out (by omega)).mono ?_
          rintro e w4 ⟨rfl, hE4⟩
          go_wp2_with fail
          go_ret
          exact ⟨by rw [← HE.out]; rfl, (HBW.out.trans (HB.out.mono HBW.out.size)).trans (hE4.mono (by have := HBW.out.size; have := HB.out.size; omega))⟩
  · have HN : Hid (R = []) := Lib.hid (by rw [← HR.out, foldDS, if_neg (by rw [hC]; exact hc0)])
    have hb : (C != 0) = true := by rw [bne_iff_ne]; exact hc0
    clear hC hc0
    go_enter Try.func30, Try.ntmps30
    go_wp2_with fail
    refine (CC.out _).mono ?_
    rintro e w1 ⟨rfl, hB1⟩
    go_wp2_with fail
    go_ret
    exact ⟨by rw [HN.out]; rfl, hB1⟩
end Go.Proofs.Ythblaldkpjilhaa.dfold
