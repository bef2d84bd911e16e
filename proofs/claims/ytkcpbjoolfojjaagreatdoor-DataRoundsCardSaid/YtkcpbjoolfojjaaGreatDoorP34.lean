/- data.Show: walk. -/
import Derived.Test.YtkcpbjoolfojjaaGreatDoorP33
import Derived.Deep.DeepCutAuto
import Derived.Handy
namespace Go.Proofs.YtkcpbjoolfojjaaGreatDoor.dshowT
open Go.RowKit Go.Proofs.YtkcpbjoolfojjaaGreatDoor.kit Go.Proofs.YtkcpbjoolfojjaaGreatDoor.nspec Go.Proofs.YtkcpbjoolfojjaaGreatDoor.bld Go.Proofs.YtkcpbjoolfojjaaGreatDoor.dshow Go.Proofs.YtkcpbjoolfojjaaGreatDoor.rsplit Go.Proofs.YtkcpbjoolfojjaaGreatDoor.fld Go.Proofs.YtkcpbjoolfojjaaGreatDoor.formW Go.Proofs.YtkcpbjoolfojjaaGreatDoor.splitD Go.Proofs.YtkcpbjoolfojjaaGreatDoor.dcheck Go.Proofs.YtkcpbjoolfojjaaGreatDoor.dnames Go.Proofs.YtkcpbjoolfojjaaGreatDoor.dshowB Go.Proofs.YtkcpbjoolfojjaaGreatDoor.joinW Go.Proofs.YtkcpbjoolfojjaaGreatDoor.rshow Go.Proofs.YtkcpbjoolfojjaaGreatDoor.fmt16
set_option linter.unusedVariables false

set_option maxRecDepth 100000 in
set_option maxHeartbeats 16000000 in
theorem show_any (t : Int) (s : ByteArray) (w : World) (hs : s.size ≤ maxLen) (hP : PowT w) (hT : TzT w) :
    Calls Tryz.prog 8 #[.int .i64 t, .string s] w fun e w' => e = .returned (.tuple #[.string ⟨(showDS t s.data.toList).toArray⟩, .int .i64 (checkS t s.data.toList)]) ∧ Below w.heap.size w w' := by
  obtain ⟨R, HR⟩ : ∃ R, Hid (showDS t s.data.toList = R) := ⟨_, Lib.hid rfl⟩
  rw [HR.out]
  have HP := Lib.hid hP; have HT := Lib.hid hT
  clear hP hT
  have CC := Lib.hid (fun w => dcheck_any t s w hs)
  obtain ⟨C, hC⟩ : ∃ C, checkS t s.data.toList = C := ⟨_, rfl⟩
  rw [hC] at CC ⊢
  by_cases hc0 : C = 0
  · subst hc0
    have hls : s.size ≤ 65535 := by have := check_len hC; rwa [size_len] at this
    cases hf : formS t with
    | none =>
      obtain ⟨D, hD⟩ : ∃ D : ByteArray, (⟨(Lib.decDigits s.size).toArray⟩ : ByteArray) = D := ⟨_, rfl⟩
      obtain ⟨X, hX⟩ : ∃ X : ByteArray, (⟨(hexS s.data.toList).toArray⟩ : ByteArray) = X := ⟨_, rfl⟩
      have HN : Hid (R = [92, 35, 32] ++ D.data.toList ++ (if s.data.toList = [] then [] else 32 :: X.data.toList)) := Lib.hid (by
        rw [← HR.out, showDS, if_pos hC, hf, ← hD, ← hX, size_len])
      have CD := Lib.hid (fun w (h : PowT w) => digits_nat s.size (by omega) w h)
      have CX := Lib.hid (fun w => dshowA.hex_any s w (by omega))
      have CF := Lib.hid (fun w => form_no t w hf)
      rw [hD] at CD
      rw [hX] at CX
      have hDs : D.size ≤ 10 := by
        rw [← hD, mk_size]
        exact Nat.le_trans (tname.dec_len 4 s.size (by omega)) (by omega)
      have hXs : X.size ≤ 131070 := by rw [← hX, mk_size, hex_len, size_len]; omega
      clear hf hC hD hX
      by_cases h0 : s.size = 0
      · have hem : s.toList.isEmpty = true := by
          rw [Lib.toList_data, List.eq_nil_of_length_eq_zero (show s.data.toList.length = 0 by rw [size_len]; exact h0)]; rfl
        have HN2 : Hid (R = (⟨#[92, 35, 32]⟩ ++ D : ByteArray).data.toList) := Lib.hid (by
          rw [HN.out, if_pos (List.eq_nil_of_length_eq_zero (by rw [size_len]; exact h0))]; simp)
        clear h0
        go_enter Tryz.func8, Tryz.ntmps8
        go_wp2_with fail
        refine (CC.out _).mono ?_
        rintro e w1 ⟨rfl, hB1⟩
        have HB1 := Lib.hid hB1; clear hB1
        go_wp2_with fail
        refine (CF.out _).mono ?_
        rintro e w2 ⟨rfl, rfl⟩
        go_wp2_with fail
        refine (CD.out _ (pow_below HP.out HB1.out)).mono ?_
        rintro e w3 ⟨rfl, hB3⟩
        have HB3 := Lib.hid (HB1.out.trans (hB3.mono HB1.out.size)); clear hB3
        go_wp2_with fail
        go_ret2
        exact ⟨by rw [HN2.out]; rfl, HB3.out⟩
      · have hne : s.data.toList ≠ [] := by intro h; apply h0; rw [← size_len, h]; rfl
        have hem : s.toList.isEmpty = false := by
          rw [Lib.toList_data]
          cases hl : s.data.toList with
          | nil => exact absurd hl hne
          | cons a b => rfl
        have HN2 : Hid (R = (⟨#[92, 35, 32]⟩ ++ D ++ (⟨#[32]⟩ ++ X) : ByteArray).data.toList) := Lib.hid (by
          rw [HN.out, if_neg hne]; simp)
        clear h0 hne
        go_enter Tryz.func8, Tryz.ntmps8
        go_wp2_with fail
        refine (CC.out _).mono ?_
        rintro e w1 ⟨rfl, hB1⟩
        have HB1 := Lib.hid hB1; clear hB1
        go_wp2_with fail
        refine (CF.out _).mono ?_
        rintro e w2 ⟨rfl, rfl⟩
        go_wp2_with fail
        refine (CD.out _ (pow_below HP.out HB1.out)).mono ?_
        rintro e w3 ⟨rfl, hB3⟩
        have HB3 := Lib.hid (HB1.out.trans (hB3.mono HB1.out.size)); clear hB3
        go_wp2_with fail
        refine (CX.out _).mono ?_
        rintro e w4 ⟨rfl, hB4⟩
        have HB4 := Lib.hid (HB3.out.trans (hB4.mono HB3.out.size)); clear hB4
        go_wp2_with fail
        go_ret2
        exact ⟨by rw [HN2.out]; rfl, HB4.out⟩
    | some fs =>
      obtain ⟨p, hp1, hp2, hp3⟩ := parts_ok hC hf
      have HN : Hid (R = joinS (wordsL fs p)) := Lib.hid (by rw [← HR.out, showDS, if_pos hC, hf, hp1])
      obtain ⟨n, hn⟩ : ∃ n, fs.length = n := ⟨_, rfl⟩
      obtain ⟨hpl, hpx⟩ := parts_len _ _ _ _ hp2
      have CF := Lib.hid (fun w => form_yes t fs w hf)
      unfold FormPost at CF
      rw [hn] at CF
      have hfa := form_fair hf
      have hfa4 := checkData.form_fair4 hf
      have hn20 : n ≤ 20 := by rw [← hn]; exact hfa.1
      have CS := Lib.hid (fun w => split_any fs w.heap.size s (w.alloc (fieldsO fs)) (fields_rd fs w) (by rw [World.size_alloc]; omega) hfa hls n hn)
      have HOK := Lib.hid (ok_parts _ _ _ _ hp2)
      have HNUM := Lib.hid hfa4.2
      have HSP := Lib.hid hp2; have HNN := Lib.hid hn
      have HPL : Hid (p.length = n) := Lib.hid (by rw [hpl, hn])
      have HPX := Lib.hid hpx
      clear hf hC hp1 hp2 hp3 hpl hpx hfa hfa4 hn
      go_enter Tryz.func8, Tryz.ntmps8
      go_wp2_with fail
      refine (CC.out _).mono ?_
      rintro e w1 ⟨rfl, hB1⟩
      have HB1 := Lib.hid hB1; clear hB1
      go_wp2_with fail
      refine (CF.out _).mono ?_
      rintro e w2 ⟨rfl, rfl⟩
      go_wp2_with fail
      refine (CS.out _).mono ?_
      rintro e w3 ⟨hB3, ⟨v, p', r', hsp, rfl, hown⟩ | ⟨hsp, _⟩⟩
      case inr => rw [HSP.out] at hsp; simp at hsp
      rw [HSP.out] at hsp
      simp only [Option.some.injEq, Prod.mk.injEq] at hsp
      obtain ⟨rfl, rfl⟩ := hsp
      obtain ⟨a, c, rfl, hrd⟩ := Rd.of_own hown
      rw [HPL.out]
      have HRD := Lib.hid hrd
      have HB3 := Lib.hid hB3
      have HRF : Hid (RdF w3 w1.heap.size fs) := Lib.hid (fun j f hj => (HB3.out.cell (p := ⟨w1.heap.size, j, none⟩) (by rw [World.size_alloc]; exact Nat.lt_succ_self _)).trans (fields_rd fs w1 j f hj))
      have hz3 : w1.heap.size < w3.heap.size := by have := HB3.out.size; rw [World.size_alloc] at this; omega
      have HBW : Hid (Below w.heap.size w w3) := Lib.hid (by
        have g1 := HB1.out.alloc HB1.out.size (fieldsO fs)
        exact g1.trans (HB3.out.mono g1.size))
      clear hB3 hown hrd
      go_wp2_with fail
      go_loopg [12, 13, 14, 48] (n + 1) (fun gas pv _ _ kv wr => ∃ (k : Nat) (P : List Bs), kv = .int .i64 k ∧ k ≤ n ∧ k + gas = n + 1 ∧ totW P ≤ 6554700 * k ∧ Hid (P ++ wordsL (fs.drop k) (p.drop k) = wordsL fs p) ∧ Hid (wr.ownsRow w3.heap.size 9 1 pv P.length (P.map strV)) ∧ Hid (Below w3.heap.size w3 wr))
      case atStart => exact ⟨0, [], rfl, by omega, by omega, Nat.zero_le _, Lib.hid rfl, Lib.hid (World.ownsRow_nil _ _ _ _), Lib.hid (Below.refl _ _)⟩
      case round =>
        obtain ⟨k, P, rfl, hk, hkg, hA, HW, HOWN, HB⟩ := hrel
        have HKG := Lib.hid hkg; clear hkg
        by_cases hlt : k < n
        · obtain ⟨f, hfk⟩ : ∃ f, fs[k]? = some f := ⟨_, List.getElem?_eq_getElem (by have := HNN.out; omega)⟩
          obtain ⟨x, hxk⟩ : ∃ x, p[k]? = some x := ⟨_, List.getElem?_eq_getElem (by have := HPL.out; omega)⟩
          have hxs := HPX.out x (List.mem_of_getElem? hxk)
          rw [size_len] at hxs
          have hx65 : x.length ≤ 65535 := by omega
          have HST := Lib.hid (words_go HW.out hfk hxk)
          have hok := HOK.out k f x hfk hxk
          have HNUMX := Lib.hid (fun j (e : f = .num j) => HNUM.out j (by rw [← e]; exact List.mem_of_getElem? hfk))
          have htot := show_tot hok (fun j e => by rcases HNUMX.out j e with h | h | h <;> omega)
          have HTOT : Hid (totW (P ++ showF f x) ≤ 6554700 * (k + 1)) := Lib.hid (by rw [totW_append]; omega)
          obtain ⟨X, hX⟩ : ∃ X : ByteArray, (⟨x.toArray⟩ : ByteArray) = X := ⟨_, rfl⟩
          have hXd : X.data.toList = x := by rw [← hX]
          have HLEN : Hid (P.length + (showF f X.data.toList).length ≤ 1000000000) := Lib.hid (by
            rw [hXd]; have h1 := totW_count P; have h2 := totW_count (showF f x); omega)
          have hcF := (HB.out.cell (p := ⟨w1.heap.size, k, none⟩) hz3).trans (HRF.out k f hfk)
          obtain ⟨g, o, rfl, _, hg, hcP0⟩ := HRD.out k x hxk
          have hcP := (HB.out.cell (p := ⟨g, o + k, none⟩) hg).trans hcP0
          unfold strV at hcP hcP0
          have hXs : X.size ≤ 65535 := by rw [← size_len, hXd]; exact hx65
          rw [hX] at hcP hcP0
          have HC3 := Lib.hid hcP0
          have HOKX : Hid (OkP f X.data.toList) := Lib.hid (by rw [hXd]; exact hok)
          have HXD := Lib.hid hXd
          have hgw : g < wr.heap.size := Nat.lt_of_lt_of_le hg HB.out.size
          have hok0 : 0 ≤ (k : Int) := by omega
          have HBWD := Lib.hid (HBW.out.trans (HB.out.drew.mono HBW.out.size))
          have HPW := Lib.hid (pow_below HP.out HBWD.out)
          have HTW := Lib.hid (tz_below HT.out HBWD.out)
          obtain ⟨fv, hfv⟩ : ∃ fv, fldV f = fv := ⟨_, rfl⟩
          rw [hfv] at hcF
          have HFV := Lib.hid hfv
          clear hcP0 hfk hxk hxs hX hXd hok htot hfv
          go_upto_region 15 with fail
          clear hcF HRF HSP HN HR
          have hfv := HFV.out
          subst hfv
          clear HFV HRD HOK HNUM HPX
          cases f with
          | num j =>
            have hxn : X.size ≤ 4 := by have := ok_num HOKX.out; rw [size_len] at this; rcases HNUMX.out j rfl with h | h | h <;> omega
            simp only [fldV]
            refine heldG.regionG (fun w' => w'.cell? ⟨g, o + k, none⟩ = some (.string X) ∧ Below w3.heap.size w3 w') (fun i => decide (11 ≤ i)) (by kernel_rfl) ?_
            have hS0 : wr.drew.cell? ⟨g, o + k, none⟩ = some (.string X) ∧ Below w3.heap.size w3 wr.drew := ⟨hcP, HB.out.drew⟩
            refine dshowC.isSetTake (i := 0) (d := 53) (v := u12) rfl rfl (by kernel_rfl) (by kernel_rfl) (by kernel_rfl) (fun _ _ _ h => h) (by kernel_rfl) rfl (Or.inl ⟨by kernel_rfl, ?_⟩) hS0 ?_
            · intro wz hSw
              obtain ⟨hcz, hBz⟩ := hSw
              go_simp
            try simp only [Act.put, List.setIfInBounds_toArray, List.set_cons_zero, List.set_cons_succ]
            refine dshowC.isSetTake (i := 1) (d := 54) (v := .iface 81 (.int .i64 (j : Int))) rfl rfl (by kernel_rfl) (by kernel_rfl) (by kernel_rfl) (fun _ _ _ h => h) (by kernel_rfl) rfl (Or.inl ⟨by kernel_rfl, ?_⟩) hS0 ?_
            · intro wz hSw
              obtain ⟨hcz, hBz⟩ := hSw
              go_simp
            try simp only [Act.put, List.setIfInBounds_toArray, List.set_cons_zero, List.set_cons_succ]
            refine dshowC.isSetTake (i := 2) (d := 55) (v := .slice (some ⟨g, o, none⟩) n c) rfl rfl (by kernel_rfl) (by kernel_rfl) (by kernel_rfl) (fun _ _ _ h => h) (by kernel_rfl) rfl (Or.inl ⟨by kernel_rfl, ?_⟩) hS0 ?_
            · intro wz hSw
              obtain ⟨hcz, hBz⟩ := hSw
              go_simp
            try simp only [Act.put, List.setIfInBounds_toArray, List.set_cons_zero, List.set_cons_succ]
            refine dshowC.isSetTake (i := 3) (d := 56) (v := .int .i64 (k : Int)) rfl rfl (by kernel_rfl) (by kernel_rfl) (by kernel_rfl) (fun _ _ _ h => h) (by kernel_rfl) rfl (Or.inl ⟨by kernel_rfl, ?_⟩) hS0 ?_
            · intro wz hSw
              obtain ⟨hcz, hBz⟩ := hSw
              go_simp
            try simp only [Act.put, List.setIfInBounds_toArray, List.set_cons_zero, List.set_cons_succ]
            refine dshowC.isSetTake (i := 4) (d := 57) (v := .pointer (some ⟨g, o + k, none⟩)) rfl rfl (by kernel_rfl) (by kernel_rfl) (by kernel_rfl) (fun _ _ _ h => h) (by kernel_rfl) rfl (Or.inl ⟨by kernel_rfl, ?_⟩) hS0 ?_
            · intro wz hSw
              obtain ⟨hcz, hBz⟩ := hSw
              go_simp; try (intro h0; exfalso; omega)
            try simp only [Act.put, List.setIfInBounds_toArray, List.set_cons_zero, List.set_cons_succ]
            refine dshowC.isSetTake (i := 5) (d := 58) (v := .string X) rfl rfl (by kernel_rfl) (by kernel_rfl) (by kernel_rfl) (fun _ _ _ h => h) (by kernel_rfl) rfl (Or.inl ⟨by kernel_rfl, ?_⟩) hS0 ?_
            · intro wz hSw
              obtain ⟨hcz, hBz⟩ := hSw
              go_simp
            try simp only [Act.put, List.setIfInBounds_toArray, List.set_cons_zero, List.set_cons_succ]
            refine dshowC.isSetTake (i := 6) (d := 59) (v := (.func (.method "gazetteer/data.show") #[.iface 81 (.int .i64 (j : Int))] #[])) rfl rfl (by kernel_rfl) (by kernel_rfl) (by kernel_rfl) (fun _ _ _ h => h) (by kernel_rfl) rfl (Or.inl ⟨by kernel_rfl, ?_⟩) hS0 ?_
            · intro wz hSw
              obtain ⟨hcz, hBz⟩ := hSw
              go_simp
            try simp only [Act.put, List.setIfInBounds_toArray, List.set_cons_zero, List.set_cons_succ]
            refine dshowC.isSetTake (i := 7) (d := 60) (v := (.func (.method "gazetteer/data.show") #[.iface 81 (.int .i64 (j : Int))] #[])) rfl rfl (by kernel_rfl) (by kernel_rfl) (by kernel_rfl) (fun _ _ _ h => h) (by kernel_rfl) rfl (Or.inl ⟨by kernel_rfl, ?_⟩) hS0 ?_
            · intro wz hSw
              obtain ⟨hcz, hBz⟩ := hSw
              go_simp; first | done | kernel_rfl
            try simp only [Act.put, List.setIfInBounds_toArray, List.set_cons_zero, List.set_cons_succ]
            refine dshowC.isSetTake (i := 8) (d := 61) (v := .iface 81 (.int .i64 (j : Int))) rfl rfl (by kernel_rfl) (by kernel_rfl) (by kernel_rfl) (fun _ _ _ h => h) (by kernel_rfl) rfl (Or.inl ⟨by kernel_rfl, ?_⟩) hS0 ?_
            · intro wz hSw
              obtain ⟨hcz, hBz⟩ := hSw
              go_simp
            try simp only [Act.put, List.setIfInBounds_toArray, List.set_cons_zero, List.set_cons_succ]
            refine heldG.readyG (rs := [9]) (by kernel_rfl) (by simp) ?_
            refine heldG.AllG.cons rfl (fun KK hKK => ?_) heldG.AllG.nil
            go_simp
            refine (num_show j X _ hxn HPW.out).mono ?_
            rintro e w5 ⟨hB5, u, rfl, hlv⟩
            have hB5w := HB.out.drew.trans (hB5.mono (by have := HB.out.size; simpa using this))
            have hS1 : w5.cell? ⟨g, o + k, none⟩ = some (.string X) ∧ Below w3.heap.size w3 w5 := ⟨(hB5.cell (p := ⟨g, o + k, none⟩) (by simpa using hgw)).trans hcP, hB5w⟩
            have HO5 := Lib.hid (own_below (w := wr.drew) (own_drew HOWN.out) hB5)
            dsimp only
            refine hKK.out _ _ (fun _ => hS1) ?_; clear hKK KK
            try simp only [Act.put, List.setIfInBounds_toArray, List.set_cons_zero, List.set_cons_succ]
            refine heldG.readyG (rs := [10]) (by kernel_rfl) (by simp) ?_
            refine heldG.AllG.cons rfl (fun KK hKK => ?_) heldG.AllG.nil
            refine step_append_lv (by rfl) (.tmp 53) (.tmp 62) (by rfl) w3.heap.size u12 P (by simp [Act.eval]) HO5.out _ _ u (by simp [Act.eval]) hlv HLEN.out hB5w.size ?_
            intro v' w6 hown6 hgrow
            rw [HXD.out] at hown6
            have HO6 := Lib.hid hown6
            have HB6 := Lib.hid (hB5w.grown hgrow hB5w.size (fun k hk => (HO5.out.lt k hk).1))
            clear hown6 hgrow
            refine hKK.out _ _ (fun _ => ⟨(HB6.out.cell (p := ⟨g, o + k, none⟩) hg).trans HC3.out, HB6.out⟩) ?_; clear hKK KK
            try simp only [Act.put, List.setIfInBounds_toArray]
            refine heldG.readyG (rs := [11]) (by kernel_rfl) (by simp) ?_
            refine heldG.AllG.cons rfl (fun KK hKK => ?_) heldG.AllG.nil
            go_simp
            refine hKK.out _ _ (fun h => absurd h (by decide)) ?_; clear hKK KK
            try simp only [Act.put, List.setIfInBounds_toArray, List.set_cons_zero, List.set_cons_succ]
            refine heldG.doneG (by kernel_rfl) ?_ _
            clear hcP HXD
            go_wp2_with fail
            have hkg := HKG.out
            go_roundg (gk - 1)
            case rel => exact ⟨k + 1, _, by go_num, by omega, by omega, HTOT.out, HST, HO6, HB6⟩
            case measure => omega
          | ip4 =>
            have hxn : X.size = 4 := by have := ok_ip4 HOKX.out; rwa [size_len] at this
            simp only [fldV]
            refine heldG.regionG (fun w' => w'.cell? ⟨g, o + k, none⟩ = some (.string X) ∧ Below w3.heap.size w3 w') (fun i => decide (11 ≤ i)) (by kernel_rfl) ?_
            have hS0 : wr.drew.cell? ⟨g, o + k, none⟩ = some (.string X) ∧ Below w3.heap.size w3 wr.drew := ⟨hcP, HB.out.drew⟩
            refine dshowC.isSetTake (i := 0) (d := 53) (v := u12) rfl rfl (by kernel_rfl) (by kernel_rfl) (by kernel_rfl) (fun _ _ _ h => h) (by kernel_rfl) rfl (Or.inl ⟨by kernel_rfl, ?_⟩) hS0 ?_
            · intro wz hSw
              obtain ⟨hcz, hBz⟩ := hSw
              go_simp
            try simp only [Act.put, List.setIfInBounds_toArray, List.set_cons_zero, List.set_cons_succ]
            refine dshowC.isSetTake (i := 1) (d := 54) (v := .iface 83 (.agg #[])) rfl rfl (by kernel_rfl) (by kernel_rfl) (by kernel_rfl) (fun _ _ _ h => h) (by kernel_rfl) rfl (Or.inl ⟨by kernel_rfl, ?_⟩) hS0 ?_
            · intro wz hSw
              obtain ⟨hcz, hBz⟩ := hSw
              go_simp
            try simp only [Act.put, List.setIfInBounds_toArray, List.set_cons_zero, List.set_cons_succ]
            refine dshowC.isSetTake (i := 2) (d := 55) (v := .slice (some ⟨g, o, none⟩) n c) rfl rfl (by kernel_rfl) (by kernel_rfl) (by kernel_rfl) (fun _ _ _ h => h) (by kernel_rfl) rfl (Or.inl ⟨by kernel_rfl, ?_⟩) hS0 ?_
            · intro wz hSw
              obtain ⟨hcz, hBz⟩ := hSw
              go_simp
            try simp only [Act.put, List.setIfInBounds_toArray, List.set_cons_zero, List.set_cons_succ]
            refine dshowC.isSetTake (i := 3) (d := 56) (v := .int .i64 (k : Int)) rfl rfl (by kernel_rfl) (by kernel_rfl) (by kernel_rfl) (fun _ _ _ h => h) (by kernel_rfl) rfl (Or.inl ⟨by kernel_rfl, ?_⟩) hS0 ?_
            · intro wz hSw
              obtain ⟨hcz, hBz⟩ := hSw
              go_simp
            try simp only [Act.put, List.setIfInBounds_toArray, List.set_cons_zero, List.set_cons_succ]
            refine dshowC.isSetTake (i := 4) (d := 57) (v := .pointer (some ⟨g, o + k, none⟩)) rfl rfl (by kernel_rfl) (by kernel_rfl) (by kernel_rfl) (fun _ _ _ h => h) (by kernel_rfl) rfl (Or.inl ⟨by kernel_rfl, ?_⟩) hS0 ?_
            · intro wz hSw
              obtain ⟨hcz, hBz⟩ := hSw
              go_simp; try (intro h0; exfalso; omega)
            try simp only [Act.put, List.setIfInBounds_toArray, List.set_cons_zero, List.set_cons_succ]
            refine dshowC.isSetTake (i := 5) (d := 58) (v := .string X) rfl rfl (by kernel_rfl) (by kernel_rfl) (by kernel_rfl) (fun _ _ _ h => h) (by kernel_rfl) rfl (Or.inl ⟨by kernel_rfl, ?_⟩) hS0 ?_
            · intro wz hSw
              obtain ⟨hcz, hBz⟩ := hSw
              go_simp
            try simp only [Act.put, List.setIfInBounds_toArray, List.set_cons_zero, List.set_cons_succ]
            refine dshowC.isSetTake (i := 6) (d := 59) (v := (.func (.method "gazetteer/data.show") #[.iface 83 (.agg #[])] #[])) rfl rfl (by kernel_rfl) (by kernel_rfl) (by kernel_rfl) (fun _ _ _ h => h) (by kernel_rfl) rfl (Or.inl ⟨by kernel_rfl, ?_⟩) hS0 ?_
            · intro wz hSw
              obtain ⟨hcz, hBz⟩ := hSw
              go_simp
            try simp only [Act.put, List.setIfInBounds_toArray, List.set_cons_zero, List.set_cons_succ]
            refine dshowC.isSetTake (i := 7) (d := 60) (v := (.func (.method "gazetteer/data.show") #[.iface 83 (.agg #[])] #[])) rfl rfl (by kernel_rfl) (by kernel_rfl) (by kernel_rfl) (fun _ _ _ h => h) (by kernel_rfl) rfl (Or.inl ⟨by kernel_rfl, ?_⟩) hS0 ?_
            · intro wz hSw
              obtain ⟨hcz, hBz⟩ := hSw
              go_simp; first | done | kernel_rfl
            try simp only [Act.put, List.setIfInBounds_toArray, List.set_cons_zero, List.set_cons_succ]
            refine dshowC.isSetTake (i := 8) (d := 61) (v := .iface 83 (.agg #[])) rfl rfl (by kernel_rfl) (by kernel_rfl) (by kernel_rfl) (fun _ _ _ h => h) (by kernel_rfl) rfl (Or.inl ⟨by kernel_rfl, ?_⟩) hS0 ?_
            · intro wz hSw
              obtain ⟨hcz, hBz⟩ := hSw
              go_simp
            try simp only [Act.put, List.setIfInBounds_toArray, List.set_cons_zero, List.set_cons_succ]
            refine heldG.readyG (rs := [9]) (by kernel_rfl) (by simp) ?_
            refine heldG.AllG.cons rfl (fun KK hKK => ?_) heldG.AllG.nil
            go_simp
            refine (dshowC.ip4_show X _ hxn HPW.out).mono ?_
            rintro e w5 ⟨hB5, u, rfl, hlv⟩
            have hB5w := HB.out.drew.trans (hB5.mono (by have := HB.out.size; simpa using this))
            have hS1 : w5.cell? ⟨g, o + k, none⟩ = some (.string X) ∧ Below w3.heap.size w3 w5 := ⟨(hB5.cell (p := ⟨g, o + k, none⟩) (by simpa using hgw)).trans hcP, hB5w⟩
            have HO5 := Lib.hid (own_below (w := wr.drew) (own_drew HOWN.out) hB5)
            dsimp only
            refine hKK.out _ _ (fun _ => hS1) ?_; clear hKK KK
            try simp only [Act.put, List.setIfInBounds_toArray, List.set_cons_zero, List.set_cons_succ]
            refine heldG.readyG (rs := [10]) (by kernel_rfl) (by simp) ?_
            refine heldG.AllG.cons rfl (fun KK hKK => ?_) heldG.AllG.nil
            refine step_append_lv (by rfl) (.tmp 53) (.tmp 62) (by rfl) w3.heap.size u12 P (by simp [Act.eval]) HO5.out _ _ u (by simp [Act.eval]) hlv HLEN.out hB5w.size ?_
            intro v' w6 hown6 hgrow
            rw [HXD.out] at hown6
            have HO6 := Lib.hid hown6
            have HB6 := Lib.hid (hB5w.grown hgrow hB5w.size (fun k hk => (HO5.out.lt k hk).1))
            clear hown6 hgrow
            refine hKK.out _ _ (fun _ => ⟨(HB6.out.cell (p := ⟨g, o + k, none⟩) hg).trans HC3.out, HB6.out⟩) ?_; clear hKK KK
            try simp only [Act.put, List.setIfInBounds_toArray]
            refine heldG.readyG (rs := [11]) (by kernel_rfl) (by simp) ?_
            refine heldG.AllG.cons rfl (fun KK hKK => ?_) heldG.AllG.nil
            go_simp
            refine hKK.out _ _ (fun h => absurd h (by decide)) ?_; clear hKK KK
            try simp only [Act.put, List.setIfInBounds_toArray, List.set_cons_zero, List.set_cons_succ]
            refine heldG.doneG (by kernel_rfl) ?_ _
            clear hcP HXD
            go_wp2_with fail
            have hkg := HKG.out
            go_roundg (gk - 1)
            case rel => exact ⟨k + 1, _, by go_num, by omega, by omega, HTOT.out, HST, HO6, HB6⟩
            case measure => omega
          | ip6 =>
            have hxn : X.size = 16 := by have := ok_ip6 HOKX.out; rwa [size_len] at this
            simp only [fldV]
            refine heldG.regionG (fun w' => w'.cell? ⟨g, o + k, none⟩ = some (.string X) ∧ Below w3.heap.size w3 w') (fun i => decide (11 ≤ i)) (by kernel_rfl) ?_
            have hS0 : wr.drew.cell? ⟨g, o + k, none⟩ = some (.string X) ∧ Below w3.heap.size w3 wr.drew := ⟨hcP, HB.out.drew⟩
            refine dshowC.isSetTake (i := 0) (d := 53) (v := u12) rfl rfl (by kernel_rfl) (by kernel_rfl) (by kernel_rfl) (fun _ _ _ h => h) (by kernel_rfl) rfl (Or.inl ⟨by kernel_rfl, ?_⟩) hS0 ?_
            · intro wz hSw
              obtain ⟨hcz, hBz⟩ := hSw
              go_simp
            try simp only [Act.put, List.setIfInBounds_toArray, List.set_cons_zero, List.set_cons_succ]
            refine dshowC.isSetTake (i := 1) (d := 54) (v := .iface 87 (.agg #[])) rfl rfl (by kernel_rfl) (by kernel_rfl) (by kernel_rfl) (fun _ _ _ h => h) (by kernel_rfl) rfl (Or.inl ⟨by kernel_rfl, ?_⟩) hS0 ?_
            · intro wz hSw
              obtain ⟨hcz, hBz⟩ := hSw
              go_simp
            try simp only [Act.put, List.setIfInBounds_toArray, List.set_cons_zero, List.set_cons_succ]
            refine dshowC.isSetTake (i := 2) (d := 55) (v := .slice (some ⟨g, o, none⟩) n c) rfl rfl (by kernel_rfl) (by kernel_rfl) (by kernel_rfl) (fun _ _ _ h => h) (by kernel_rfl) rfl (Or.inl ⟨by kernel_rfl, ?_⟩) hS0 ?_
            · intro wz hSw
              obtain ⟨hcz, hBz⟩ := hSw
              go_simp
            try simp only [Act.put, List.setIfInBounds_toArray, List.set_cons_zero, List.set_cons_succ]
            refine dshowC.isSetTake (i := 3) (d := 56) (v := .int .i64 (k : Int)) rfl rfl (by kernel_rfl) (by kernel_rfl) (by kernel_rfl) (fun _ _ _ h => h) (by kernel_rfl) rfl (Or.inl ⟨by kernel_rfl, ?_⟩) hS0 ?_
            · intro wz hSw
              obtain ⟨hcz, hBz⟩ := hSw
              go_simp
            try simp only [Act.put, List.setIfInBounds_toArray, List.set_cons_zero, List.set_cons_succ]
            refine dshowC.isSetTake (i := 4) (d := 57) (v := .pointer (some ⟨g, o + k, none⟩)) rfl rfl (by kernel_rfl) (by kernel_rfl) (by kernel_rfl) (fun _ _ _ h => h) (by kernel_rfl) rfl (Or.inl ⟨by kernel_rfl, ?_⟩) hS0 ?_
            · intro wz hSw
              obtain ⟨hcz, hBz⟩ := hSw
              go_simp; try (intro h0; exfalso; omega)
            try simp only [Act.put, List.setIfInBounds_toArray, List.set_cons_zero, List.set_cons_succ]
            refine dshowC.isSetTake (i := 5) (d := 58) (v := .string X) rfl rfl (by kernel_rfl) (by kernel_rfl) (by kernel_rfl) (fun _ _ _ h => h) (by kernel_rfl) rfl (Or.inl ⟨by kernel_rfl, ?_⟩) hS0 ?_
            · intro wz hSw
              obtain ⟨hcz, hBz⟩ := hSw
              go_simp
            try simp only [Act.put, List.setIfInBounds_toArray, List.set_cons_zero, List.set_cons_succ]
            refine dshowC.isSetTake (i := 6) (d := 59) (v := (.func (.method "gazetteer/data.show") #[.iface 87 (.agg #[])] #[])) rfl rfl (by kernel_rfl) (by kernel_rfl) (by kernel_rfl) (fun _ _ _ h => h) (by kernel_rfl) rfl (Or.inl ⟨by kernel_rfl, ?_⟩) hS0 ?_
            · intro wz hSw
              obtain ⟨hcz, hBz⟩ := hSw
              go_simp
            try simp only [Act.put, List.setIfInBounds_toArray, List.set_cons_zero, List.set_cons_succ]
            refine dshowC.isSetTake (i := 7) (d := 60) (v := (.func (.method "gazetteer/data.show") #[.iface 87 (.agg #[])] #[])) rfl rfl (by kernel_rfl) (by kernel_rfl) (by kernel_rfl) (fun _ _ _ h => h) (by kernel_rfl) rfl (Or.inl ⟨by kernel_rfl, ?_⟩) hS0 ?_
            · intro wz hSw
              obtain ⟨hcz, hBz⟩ := hSw
              go_simp; first | done | kernel_rfl
            try simp only [Act.put, List.setIfInBounds_toArray, List.set_cons_zero, List.set_cons_succ]
            refine dshowC.isSetTake (i := 8) (d := 61) (v := .iface 87 (.agg #[])) rfl rfl (by kernel_rfl) (by kernel_rfl) (by kernel_rfl) (fun _ _ _ h => h) (by kernel_rfl) rfl (Or.inl ⟨by kernel_rfl, ?_⟩) hS0 ?_
            · intro wz hSw
              obtain ⟨hcz, hBz⟩ := hSw
              go_simp
            try simp only [Act.put, List.setIfInBounds_toArray, List.set_cons_zero, List.set_cons_succ]
            refine heldG.readyG (rs := [9]) (by kernel_rfl) (by simp) ?_
            refine heldG.AllG.cons rfl (fun KK hKK => ?_) heldG.AllG.nil
            go_simp
            refine (ip6.ip6_show X _ hxn HTW.out).mono ?_
            rintro e w5 ⟨hB5, u, rfl, hlv⟩
            have hB5w := HB.out.drew.trans (hB5.mono (by have := HB.out.size; simpa using this))
            have hS1 : w5.cell? ⟨g, o + k, none⟩ = some (.string X) ∧ Below w3.heap.size w3 w5 := ⟨(hB5.cell (p := ⟨g, o + k, none⟩) (by simpa using hgw)).trans hcP, hB5w⟩
            have HO5 := Lib.hid (own_below (w := wr.drew) (own_drew HOWN.out) hB5)
            dsimp only
            refine hKK.out _ _ (fun _ => hS1) ?_; clear hKK KK
            try simp only [Act.put, List.setIfInBounds_toArray, List.set_cons_zero, List.set_cons_succ]
            refine heldG.readyG (rs := [10]) (by kernel_rfl) (by simp) ?_
            refine heldG.AllG.cons rfl (fun KK hKK => ?_) heldG.AllG.nil
            refine step_append_lv (by rfl) (.tmp 53) (.tmp 62) (by rfl) w3.heap.size u12 P (by simp [Act.eval]) HO5.out _ _ u (by simp [Act.eval]) hlv HLEN.out hB5w.size ?_
            intro v' w6 hown6 hgrow
            rw [HXD.out] at hown6
            have HO6 := Lib.hid hown6
            have HB6 := Lib.hid (hB5w.grown hgrow hB5w.size (fun k hk => (HO5.out.lt k hk).1))
            clear hown6 hgrow
            refine hKK.out _ _ (fun _ => ⟨(HB6.out.cell (p := ⟨g, o + k, none⟩) hg).trans HC3.out, HB6.out⟩) ?_; clear hKK KK
            try simp only [Act.put, List.setIfInBounds_toArray]
            refine heldG.readyG (rs := [11]) (by kernel_rfl) (by simp) ?_
            refine heldG.AllG.cons rfl (fun KK hKK => ?_) heldG.AllG.nil
            go_simp
            refine hKK.out _ _ (fun h => absurd h (by decide)) ?_; clear hKK KK
            try simp only [Act.put, List.setIfInBounds_toArray, List.set_cons_zero, List.set_cons_succ]
            refine heldG.doneG (by kernel_rfl) ?_ _
            clear hcP HXD
            go_wp2_with fail
            have hkg := HKG.out
            go_roundg (gk - 1)
            case rel => exact ⟨k + 1, _, by go_num, by omega, by omega, HTOT.out, HST, HO6, HB6⟩
            case measure => omega
          | host =>
            simp only [fldV]
            refine heldG.regionG (fun w' => w'.cell? ⟨g, o + k, none⟩ = some (.string X) ∧ Below w3.heap.size w3 w') (fun i => decide (11 ≤ i)) (by kernel_rfl) ?_
            have hS0 : wr.drew.cell? ⟨g, o + k, none⟩ = some (.string X) ∧ Below w3.heap.size w3 wr.drew := ⟨hcP, HB.out.drew⟩
            refine dshowC.isSetTake (i := 0) (d := 53) (v := u12) rfl rfl (by kernel_rfl) (by kernel_rfl) (by kernel_rfl) (fun _ _ _ h => h) (by kernel_rfl) rfl (Or.inl ⟨by kernel_rfl, ?_⟩) hS0 ?_
            · intro wz hSw
              obtain ⟨hcz, hBz⟩ := hSw
              go_simp
            try simp only [Act.put, List.setIfInBounds_toArray, List.set_cons_zero, List.set_cons_succ]
            refine dshowC.isSetTake (i := 1) (d := 54) (v := .iface 84 (.agg #[])) rfl rfl (by kernel_rfl) (by kernel_rfl) (by kernel_rfl) (fun _ _ _ h => h) (by kernel_rfl) rfl (Or.inl ⟨by kernel_rfl, ?_⟩) hS0 ?_
            · intro wz hSw
              obtain ⟨hcz, hBz⟩ := hSw
              go_simp
            try simp only [Act.put, List.setIfInBounds_toArray, List.set_cons_zero, List.set_cons_succ]
            refine dshowC.isSetTake (i := 2) (d := 55) (v := .slice (some ⟨g, o, none⟩) n c) rfl rfl (by kernel_rfl) (by kernel_rfl) (by kernel_rfl) (fun _ _ _ h => h) (by kernel_rfl) rfl (Or.inl ⟨by kernel_rfl, ?_⟩) hS0 ?_
            · intro wz hSw
              obtain ⟨hcz, hBz⟩ := hSw
              go_simp
            try simp only [Act.put, List.setIfInBounds_toArray, List.set_cons_zero, List.set_cons_succ]
            refine dshowC.isSetTake (i := 3) (d := 56) (v := .int .i64 (k : Int)) rfl rfl (by kernel_rfl) (by kernel_rfl) (by kernel_rfl) (fun _ _ _ h => h) (by kernel_rfl) rfl (Or.inl ⟨by kernel_rfl, ?_⟩) hS0 ?_
            · intro wz hSw
              obtain ⟨hcz, hBz⟩ := hSw
              go_simp
            try simp only [Act.put, List.setIfInBounds_toArray, List.set_cons_zero, List.set_cons_succ]
            refine dshowC.isSetTake (i := 4) (d := 57) (v := .pointer (some ⟨g, o + k, none⟩)) rfl rfl (by kernel_rfl) (by kernel_rfl) (by kernel_rfl) (fun _ _ _ h => h) (by kernel_rfl) rfl (Or.inl ⟨by kernel_rfl, ?_⟩) hS0 ?_
            · intro wz hSw
              obtain ⟨hcz, hBz⟩ := hSw
              go_simp; try (intro h0; exfalso; omega)
            try simp only [Act.put, List.setIfInBounds_toArray, List.set_cons_zero, List.set_cons_succ]
            refine dshowC.isSetTake (i := 5) (d := 58) (v := .string X) rfl rfl (by kernel_rfl) (by kernel_rfl) (by kernel_rfl) (fun _ _ _ h => h) (by kernel_rfl) rfl (Or.inl ⟨by kernel_rfl, ?_⟩) hS0 ?_
            · intro wz hSw
              obtain ⟨hcz, hBz⟩ := hSw
              go_simp
            try simp only [Act.put, List.setIfInBounds_toArray, List.set_cons_zero, List.set_cons_succ]
            refine dshowC.isSetTake (i := 6) (d := 59) (v := (.func (.method "gazetteer/data.show") #[.iface 84 (.agg #[])] #[])) rfl rfl (by kernel_rfl) (by kernel_rfl) (by kernel_rfl) (fun _ _ _ h => h) (by kernel_rfl) rfl (Or.inl ⟨by kernel_rfl, ?_⟩) hS0 ?_
            · intro wz hSw
              obtain ⟨hcz, hBz⟩ := hSw
              go_simp
            try simp only [Act.put, List.setIfInBounds_toArray, List.set_cons_zero, List.set_cons_succ]
            refine dshowC.isSetTake (i := 7) (d := 60) (v := (.func (.method "gazetteer/data.show") #[.iface 84 (.agg #[])] #[])) rfl rfl (by kernel_rfl) (by kernel_rfl) (by kernel_rfl) (fun _ _ _ h => h) (by kernel_rfl) rfl (Or.inl ⟨by kernel_rfl, ?_⟩) hS0 ?_
            · intro wz hSw
              obtain ⟨hcz, hBz⟩ := hSw
              go_simp; first | done | kernel_rfl
            try simp only [Act.put, List.setIfInBounds_toArray, List.set_cons_zero, List.set_cons_succ]
            refine dshowC.isSetTake (i := 8) (d := 61) (v := .iface 84 (.agg #[])) rfl rfl (by kernel_rfl) (by kernel_rfl) (by kernel_rfl) (fun _ _ _ h => h) (by kernel_rfl) rfl (Or.inl ⟨by kernel_rfl, ?_⟩) hS0 ?_
            · intro wz hSw
              obtain ⟨hcz, hBz⟩ := hSw
              go_simp
            try simp only [Act.put, List.setIfInBounds_toArray, List.set_cons_zero, List.set_cons_succ]
            refine heldG.readyG (rs := [9]) (by kernel_rfl) (by simp) ?_
            refine heldG.AllG.cons rfl (fun KK hKK => ?_) heldG.AllG.nil
            go_simp
            refine (host_show X _ hXs).mono ?_
            rintro e w5 ⟨hB5, u, rfl, hlv⟩
            have hB5w := HB.out.drew.trans (hB5.mono (by have := HB.out.size; simpa using this))
            have hS1 : w5.cell? ⟨g, o + k, none⟩ = some (.string X) ∧ Below w3.heap.size w3 w5 := ⟨(hB5.cell (p := ⟨g, o + k, none⟩) (by simpa using hgw)).trans hcP, hB5w⟩
            have HO5 := Lib.hid (own_below (w := wr.drew) (own_drew HOWN.out) hB5)
            dsimp only
            refine hKK.out _ _ (fun _ => hS1) ?_; clear hKK KK
            try simp only [Act.put, List.setIfInBounds_toArray, List.set_cons_zero, List.set_cons_succ]
            refine heldG.readyG (rs := [10]) (by kernel_rfl) (by simp) ?_
            refine heldG.AllG.cons rfl (fun KK hKK => ?_) heldG.AllG.nil
            refine step_append_lv (by rfl) (.tmp 53) (.tmp 62) (by rfl) w3.heap.size u12 P (by simp [Act.eval]) HO5.out _ _ u (by simp [Act.eval]) hlv HLEN.out hB5w.size ?_
            intro v' w6 hown6 hgrow
            rw [HXD.out] at hown6
            have HO6 := Lib.hid hown6
            have HB6 := Lib.hid (hB5w.grown hgrow hB5w.size (fun k hk => (HO5.out.lt k hk).1))
            clear hown6 hgrow
            refine hKK.out _ _ (fun _ => ⟨(HB6.out.cell (p := ⟨g, o + k, none⟩) hg).trans HC3.out, HB6.out⟩) ?_; clear hKK KK
            try simp only [Act.put, List.setIfInBounds_toArray]
            refine heldG.readyG (rs := [11]) (by kernel_rfl) (by simp) ?_
            refine heldG.AllG.cons rfl (fun KK hKK => ?_) heldG.AllG.nil
            go_simp
            refine hKK.out _ _ (fun h => absurd h (by decide)) ?_; clear hKK KK
            try simp only [Act.put, List.setIfInBounds_toArray, List.set_cons_zero, List.set_cons_succ]
            refine heldG.doneG (by kernel_rfl) ?_ _
            clear hcP HXD
            go_wp2_with fail
            have hkg := HKG.out
            go_roundg (gk - 1)
            case rel => exact ⟨k + 1, _, by go_num, by omega, by omega, HTOT.out, HST, HO6, HB6⟩
            case measure => omega
          | text =>
            have hxn : 1 ≤ X.size := by have := ok_textL HOKX.out; rwa [size_len] at this
            simp only [fldV]
            refine heldG.regionG (fun w' => w'.cell? ⟨g, o + k, none⟩ = some (.string X) ∧ Below w3.heap.size w3 w') (fun i => decide (11 ≤ i)) (by kernel_rfl) ?_
            have hS0 : wr.drew.cell? ⟨g, o + k, none⟩ = some (.string X) ∧ Below w3.heap.size w3 wr.drew := ⟨hcP, HB.out.drew⟩
            refine dshowC.isSetTake (i := 0) (d := 53) (v := u12) rfl rfl (by kernel_rfl) (by kernel_rfl) (by kernel_rfl) (fun _ _ _ h => h) (by kernel_rfl) rfl (Or.inl ⟨by kernel_rfl, ?_⟩) hS0 ?_
            · intro wz hSw
              obtain ⟨hcz, hBz⟩ := hSw
              go_simp
            try simp only [Act.put, List.setIfInBounds_toArray, List.set_cons_zero, List.set_cons_succ]
            refine dshowC.isSetTake (i := 1) (d := 54) (v := .iface 85 (.agg #[])) rfl rfl (by kernel_rfl) (by kernel_rfl) (by kernel_rfl) (fun _ _ _ h => h) (by kernel_rfl) rfl (Or.inl ⟨by kernel_rfl, ?_⟩) hS0 ?_
            · intro wz hSw
              obtain ⟨hcz, hBz⟩ := hSw
              go_simp
            try simp only [Act.put, List.setIfInBounds_toArray, List.set_cons_zero, List.set_cons_succ]
            refine dshowC.isSetTake (i := 2) (d := 55) (v := .slice (some ⟨g, o, none⟩) n c) rfl rfl (by kernel_rfl) (by kernel_rfl) (by kernel_rfl) (fun _ _ _ h => h) (by kernel_rfl) rfl (Or.inl ⟨by kernel_rfl, ?_⟩) hS0 ?_
            · intro wz hSw
              obtain ⟨hcz, hBz⟩ := hSw
              go_simp
            try simp only [Act.put, List.setIfInBounds_toArray, List.set_cons_zero, List.set_cons_succ]
            refine dshowC.isSetTake (i := 3) (d := 56) (v := .int .i64 (k : Int)) rfl rfl (by kernel_rfl) (by kernel_rfl) (by kernel_rfl) (fun _ _ _ h => h) (by kernel_rfl) rfl (Or.inl ⟨by kernel_rfl, ?_⟩) hS0 ?_
            · intro wz hSw
              obtain ⟨hcz, hBz⟩ := hSw
              go_simp
            try simp only [Act.put, List.setIfInBounds_toArray, List.set_cons_zero, List.set_cons_succ]
            refine dshowC.isSetTake (i := 4) (d := 57) (v := .pointer (some ⟨g, o + k, none⟩)) rfl rfl (by kernel_rfl) (by kernel_rfl) (by kernel_rfl) (fun _ _ _ h => h) (by kernel_rfl) rfl (Or.inl ⟨by kernel_rfl, ?_⟩) hS0 ?_
            · intro wz hSw
              obtain ⟨hcz, hBz⟩ := hSw
              go_simp; try (intro h0; exfalso; omega)
            try simp only [Act.put, List.setIfInBounds_toArray, List.set_cons_zero, List.set_cons_succ]
            refine dshowC.isSetTake (i := 5) (d := 58) (v := .string X) rfl rfl (by kernel_rfl) (by kernel_rfl) (by kernel_rfl) (fun _ _ _ h => h) (by kernel_rfl) rfl (Or.inl ⟨by kernel_rfl, ?_⟩) hS0 ?_
            · intro wz hSw
              obtain ⟨hcz, hBz⟩ := hSw
              go_simp
            try simp only [Act.put, List.setIfInBounds_toArray, List.set_cons_zero, List.set_cons_succ]
            refine dshowC.isSetTake (i := 6) (d := 59) (v := (.func (.method "gazetteer/data.show") #[.iface 85 (.agg #[])] #[])) rfl rfl (by kernel_rfl) (by kernel_rfl) (by kernel_rfl) (fun _ _ _ h => h) (by kernel_rfl) rfl (Or.inl ⟨by kernel_rfl, ?_⟩) hS0 ?_
            · intro wz hSw
              obtain ⟨hcz, hBz⟩ := hSw
              go_simp
            try simp only [Act.put, List.setIfInBounds_toArray, List.set_cons_zero, List.set_cons_succ]
            refine dshowC.isSetTake (i := 7) (d := 60) (v := (.func (.method "gazetteer/data.show") #[.iface 85 (.agg #[])] #[])) rfl rfl (by kernel_rfl) (by kernel_rfl) (by kernel_rfl) (fun _ _ _ h => h) (by kernel_rfl) rfl (Or.inl ⟨by kernel_rfl, ?_⟩) hS0 ?_
            · intro wz hSw
              obtain ⟨hcz, hBz⟩ := hSw
              go_simp; first | done | kernel_rfl
            try simp only [Act.put, List.setIfInBounds_toArray, List.set_cons_zero, List.set_cons_succ]
            refine dshowC.isSetTake (i := 8) (d := 61) (v := .iface 85 (.agg #[])) rfl rfl (by kernel_rfl) (by kernel_rfl) (by kernel_rfl) (fun _ _ _ h => h) (by kernel_rfl) rfl (Or.inl ⟨by kernel_rfl, ?_⟩) hS0 ?_
            · intro wz hSw
              obtain ⟨hcz, hBz⟩ := hSw
              go_simp
            try simp only [Act.put, List.setIfInBounds_toArray, List.set_cons_zero, List.set_cons_succ]
            refine heldG.readyG (rs := [9]) (by kernel_rfl) (by simp) ?_
            refine heldG.AllG.cons rfl (fun KK hKK => ?_) heldG.AllG.nil
            go_simp
            refine (text_show X _ hXs hxn).mono ?_
            rintro e w5 ⟨hB5, u, rfl, hlv⟩
            have hB5w := HB.out.drew.trans (hB5.mono (by have := HB.out.size; simpa using this))
            have hS1 : w5.cell? ⟨g, o + k, none⟩ = some (.string X) ∧ Below w3.heap.size w3 w5 := ⟨(hB5.cell (p := ⟨g, o + k, none⟩) (by simpa using hgw)).trans hcP, hB5w⟩
            have HO5 := Lib.hid (own_below (w := wr.drew) (own_drew HOWN.out) hB5)
            dsimp only
            refine hKK.out _ _ (fun _ => hS1) ?_; clear hKK KK
            try simp only [Act.put, List.setIfInBounds_toArray, List.set_cons_zero, List.set_cons_succ]
            refine heldG.readyG (rs := [10]) (by kernel_rfl) (by simp) ?_
            refine heldG.AllG.cons rfl (fun KK hKK => ?_) heldG.AllG.nil
            refine step_append_lv (by rfl) (.tmp 53) (.tmp 62) (by rfl) w3.heap.size u12 P (by simp [Act.eval]) HO5.out _ _ u (by simp [Act.eval]) hlv HLEN.out hB5w.size ?_
            intro v' w6 hown6 hgrow
            rw [HXD.out] at hown6
            have HO6 := Lib.hid hown6
            have HB6 := Lib.hid (hB5w.grown hgrow hB5w.size (fun k hk => (HO5.out.lt k hk).1))
            clear hown6 hgrow
            refine hKK.out _ _ (fun _ => ⟨(HB6.out.cell (p := ⟨g, o + k, none⟩) hg).trans HC3.out, HB6.out⟩) ?_; clear hKK KK
            try simp only [Act.put, List.setIfInBounds_toArray]
            refine heldG.readyG (rs := [11]) (by kernel_rfl) (by simp) ?_
            refine heldG.AllG.cons rfl (fun KK hKK => ?_) heldG.AllG.nil
            go_simp
            refine hKK.out _ _ (fun h => absurd h (by decide)) ?_; clear hKK KK
            try simp only [Act.put, List.setIfInBounds_toArray, List.set_cons_zero, List.set_cons_succ]
            refine heldG.doneG (by kernel_rfl) ?_ _
            clear hcP HXD
            go_wp2_with fail
            have hkg := HKG.out
            go_roundg (gk - 1)
            case rel => exact ⟨k + 1, _, by go_num, by omega, by omega, HTOT.out, HST, HO6, HB6⟩
            case measure => omega
          | texts =>
            simp only [fldV]
            refine heldG.regionG (fun w' => w'.cell? ⟨g, o + k, none⟩ = some (.string X) ∧ Below w3.heap.size w3 w') (fun i => decide (11 ≤ i)) (by kernel_rfl) ?_
            have hS0 : wr.drew.cell? ⟨g, o + k, none⟩ = some (.string X) ∧ Below w3.heap.size w3 wr.drew := ⟨hcP, HB.out.drew⟩
            refine dshowC.isSetTake (i := 0) (d := 53) (v := u12) rfl rfl (by kernel_rfl) (by kernel_rfl) (by kernel_rfl) (fun _ _ _ h => h) (by kernel_rfl) rfl (Or.inl ⟨by kernel_rfl, ?_⟩) hS0 ?_
            · intro wz hSw
              obtain ⟨hcz, hBz⟩ := hSw
              go_simp
            try simp only [Act.put, List.setIfInBounds_toArray, List.set_cons_zero, List.set_cons_succ]
            refine dshowC.isSetTake (i := 1) (d := 54) (v := .iface 86 (.agg #[])) rfl rfl (by kernel_rfl) (by kernel_rfl) (by kernel_rfl) (fun _ _ _ h => h) (by kernel_rfl) rfl (Or.inl ⟨by kernel_rfl, ?_⟩) hS0 ?_
            · intro wz hSw
              obtain ⟨hcz, hBz⟩ := hSw
              go_simp
            try simp only [Act.put, List.setIfInBounds_toArray, List.set_cons_zero, List.set_cons_succ]
            refine dshowC.isSetTake (i := 2) (d := 55) (v := .slice (some ⟨g, o, none⟩) n c) rfl rfl (by kernel_rfl) (by kernel_rfl) (by kernel_rfl) (fun _ _ _ h => h) (by kernel_rfl) rfl (Or.inl ⟨by kernel_rfl, ?_⟩) hS0 ?_
            · intro wz hSw
              obtain ⟨hcz, hBz⟩ := hSw
              go_simp
            try simp only [Act.put, List.setIfInBounds_toArray, List.set_cons_zero, List.set_cons_succ]
            refine dshowC.isSetTake (i := 3) (d := 56) (v := .int .i64 (k : Int)) rfl rfl (by kernel_rfl) (by kernel_rfl) (by kernel_rfl) (fun _ _ _ h => h) (by kernel_rfl) rfl (Or.inl ⟨by kernel_rfl, ?_⟩) hS0 ?_
            · intro wz hSw
              obtain ⟨hcz, hBz⟩ := hSw
              go_simp
            try simp only [Act.put, List.setIfInBounds_toArray, List.set_cons_zero, List.set_cons_succ]
            refine dshowC.isSetTake (i := 4) (d := 57) (v := .pointer (some ⟨g, o + k, none⟩)) rfl rfl (by kernel_rfl) (by kernel_rfl) (by kernel_rfl) (fun _ _ _ h => h) (by kernel_rfl) rfl (Or.inl ⟨by kernel_rfl, ?_⟩) hS0 ?_
            · intro wz hSw
              obtain ⟨hcz, hBz⟩ := hSw
              go_simp; try (intro h0; exfalso; omega)
            try simp only [Act.put, List.setIfInBounds_toArray, List.set_cons_zero, List.set_cons_succ]
            refine dshowC.isSetTake (i := 5) (d := 58) (v := .string X) rfl rfl (by kernel_rfl) (by kernel_rfl) (by kernel_rfl) (fun _ _ _ h => h) (by kernel_rfl) rfl (Or.inl ⟨by kernel_rfl, ?_⟩) hS0 ?_
            · intro wz hSw
              obtain ⟨hcz, hBz⟩ := hSw
              go_simp
            try simp only [Act.put, List.setIfInBounds_toArray, List.set_cons_zero, List.set_cons_succ]
            refine dshowC.isSetTake (i := 6) (d := 59) (v := (.func (.method "gazetteer/data.show") #[.iface 86 (.agg #[])] #[])) rfl rfl (by kernel_rfl) (by kernel_rfl) (by kernel_rfl) (fun _ _ _ h => h) (by kernel_rfl) rfl (Or.inl ⟨by kernel_rfl, ?_⟩) hS0 ?_
            · intro wz hSw
              obtain ⟨hcz, hBz⟩ := hSw
              go_simp
            try simp only [Act.put, List.setIfInBounds_toArray, List.set_cons_zero, List.set_cons_succ]
            refine dshowC.isSetTake (i := 7) (d := 60) (v := (.func (.method "gazetteer/data.show") #[.iface 86 (.agg #[])] #[])) rfl rfl (by kernel_rfl) (by kernel_rfl) (by kernel_rfl) (fun _ _ _ h => h) (by kernel_rfl) rfl (Or.inl ⟨by kernel_rfl, ?_⟩) hS0 ?_
            · intro wz hSw
              obtain ⟨hcz, hBz⟩ := hSw
              go_simp; first | done | kernel_rfl
            try simp only [Act.put, List.setIfInBounds_toArray, List.set_cons_zero, List.set_cons_succ]
            refine dshowC.isSetTake (i := 8) (d := 61) (v := .iface 86 (.agg #[])) rfl rfl (by kernel_rfl) (by kernel_rfl) (by kernel_rfl) (fun _ _ _ h => h) (by kernel_rfl) rfl (Or.inl ⟨by kernel_rfl, ?_⟩) hS0 ?_
            · intro wz hSw
              obtain ⟨hcz, hBz⟩ := hSw
              go_simp
            try simp only [Act.put, List.setIfInBounds_toArray, List.set_cons_zero, List.set_cons_succ]
            refine heldG.readyG (rs := [9]) (by kernel_rfl) (by simp) ?_
            refine heldG.AllG.cons rfl (fun KK hKK => ?_) heldG.AllG.nil
            go_simp
            refine (dshowD.texts_show X _ hXs HOKX.out).mono ?_
            rintro e w5 ⟨hB5, u, rfl, hlv⟩
            have hB5w := HB.out.drew.trans (hB5.mono (by have := HB.out.size; simpa using this))
            have hS1 : w5.cell? ⟨g, o + k, none⟩ = some (.string X) ∧ Below w3.heap.size w3 w5 := ⟨(hB5.cell (p := ⟨g, o + k, none⟩) (by simpa using hgw)).trans hcP, hB5w⟩
            have HO5 := Lib.hid (own_below (w := wr.drew) (own_drew HOWN.out) hB5)
            dsimp only
            refine hKK.out _ _ (fun _ => hS1) ?_; clear hKK KK
            try simp only [Act.put, List.setIfInBounds_toArray, List.set_cons_zero, List.set_cons_succ]
            refine heldG.readyG (rs := [10]) (by kernel_rfl) (by simp) ?_
            refine heldG.AllG.cons rfl (fun KK hKK => ?_) heldG.AllG.nil
            refine step_append_lv (by rfl) (.tmp 53) (.tmp 62) (by rfl) w3.heap.size u12 P (by simp [Act.eval]) HO5.out _ _ u (by simp [Act.eval]) hlv HLEN.out hB5w.size ?_
            intro v' w6 hown6 hgrow
            rw [HXD.out] at hown6
            have HO6 := Lib.hid hown6
            have HB6 := Lib.hid (hB5w.grown hgrow hB5w.size (fun k hk => (HO5.out.lt k hk).1))
            clear hown6 hgrow
            refine hKK.out _ _ (fun _ => ⟨(HB6.out.cell (p := ⟨g, o + k, none⟩) hg).trans HC3.out, HB6.out⟩) ?_; clear hKK KK
            try simp only [Act.put, List.setIfInBounds_toArray]
            refine heldG.readyG (rs := [11]) (by kernel_rfl) (by simp) ?_
            refine heldG.AllG.cons rfl (fun KK hKK => ?_) heldG.AllG.nil
            go_simp
            refine hKK.out _ _ (fun h => absurd h (by decide)) ?_; clear hKK KK
            try simp only [Act.put, List.setIfInBounds_toArray, List.set_cons_zero, List.set_cons_succ]
            refine heldG.doneG (by kernel_rfl) ?_ _
            clear hcP HXD
            go_wp2_with fail
            have hkg := HKG.out
            go_roundg (gk - 1)
            case rel => exact ⟨k + 1, _, by go_num, by omega, by omega, HTOT.out, HST, HO6, HB6⟩
            case measure => omega
          | tail =>
            simp only [fldV]
            refine heldG.regionG (fun w' => w'.cell? ⟨g, o + k, none⟩ = some (.string X) ∧ Below w3.heap.size w3 w') (fun i => decide (11 ≤ i)) (by kernel_rfl) ?_
            have hS0 : wr.drew.cell? ⟨g, o + k, none⟩ = some (.string X) ∧ Below w3.heap.size w3 wr.drew := ⟨hcP, HB.out.drew⟩
            refine dshowC.isSetTake (i := 0) (d := 53) (v := u12) rfl rfl (by kernel_rfl) (by kernel_rfl) (by kernel_rfl) (fun _ _ _ h => h) (by kernel_rfl) rfl (Or.inl ⟨by kernel_rfl, ?_⟩) hS0 ?_
            · intro wz hSw
              obtain ⟨hcz, hBz⟩ := hSw
              go_simp
            try simp only [Act.put, List.setIfInBounds_toArray, List.set_cons_zero, List.set_cons_succ]
            refine dshowC.isSetTake (i := 1) (d := 54) (v := .iface 94 (.agg #[])) rfl rfl (by kernel_rfl) (by kernel_rfl) (by kernel_rfl) (fun _ _ _ h => h) (by kernel_rfl) rfl (Or.inl ⟨by kernel_rfl, ?_⟩) hS0 ?_
            · intro wz hSw
              obtain ⟨hcz, hBz⟩ := hSw
              go_simp
            try simp only [Act.put, List.setIfInBounds_toArray, List.set_cons_zero, List.set_cons_succ]
            refine dshowC.isSetTake (i := 2) (d := 55) (v := .slice (some ⟨g, o, none⟩) n c) rfl rfl (by kernel_rfl) (by kernel_rfl) (by kernel_rfl) (fun _ _ _ h => h) (by kernel_rfl) rfl (Or.inl ⟨by kernel_rfl, ?_⟩) hS0 ?_
            · intro wz hSw
              obtain ⟨hcz, hBz⟩ := hSw
              go_simp
            try simp only [Act.put, List.setIfInBounds_toArray, List.set_cons_zero, List.set_cons_succ]
            refine dshowC.isSetTake (i := 3) (d := 56) (v := .int .i64 (k : Int)) rfl rfl (by kernel_rfl) (by kernel_rfl) (by kernel_rfl) (fun _ _ _ h => h) (by kernel_rfl) rfl (Or.inl ⟨by kernel_rfl, ?_⟩) hS0 ?_
            · intro wz hSw
              obtain ⟨hcz, hBz⟩ := hSw
              go_simp
            try simp only [Act.put, List.setIfInBounds_toArray, List.set_cons_zero, List.set_cons_succ]
            refine dshowC.isSetTake (i := 4) (d := 57) (v := .pointer (some ⟨g, o + k, none⟩)) rfl rfl (by kernel_rfl) (by kernel_rfl) (by kernel_rfl) (fun _ _ _ h => h) (by kernel_rfl) rfl (Or.inl ⟨by kernel_rfl, ?_⟩) hS0 ?_
            · intro wz hSw
              obtain ⟨hcz, hBz⟩ := hSw
              go_simp; try (intro h0; exfalso; omega)
            try simp only [Act.put, List.setIfInBounds_toArray, List.set_cons_zero, List.set_cons_succ]
            refine dshowC.isSetTake (i := 5) (d := 58) (v := .string X) rfl rfl (by kernel_rfl) (by kernel_rfl) (by kernel_rfl) (fun _ _ _ h => h) (by kernel_rfl) rfl (Or.inl ⟨by kernel_rfl, ?_⟩) hS0 ?_
            · intro wz hSw
              obtain ⟨hcz, hBz⟩ := hSw
              go_simp
            try simp only [Act.put, List.setIfInBounds_toArray, List.set_cons_zero, List.set_cons_succ]
            refine dshowC.isSetTake (i := 6) (d := 59) (v := (.func (.method "gazetteer/data.show") #[.iface 94 (.agg #[])] #[])) rfl rfl (by kernel_rfl) (by kernel_rfl) (by kernel_rfl) (fun _ _ _ h => h) (by kernel_rfl) rfl (Or.inl ⟨by kernel_rfl, ?_⟩) hS0 ?_
            · intro wz hSw
              obtain ⟨hcz, hBz⟩ := hSw
              go_simp
            try simp only [Act.put, List.setIfInBounds_toArray, List.set_cons_zero, List.set_cons_succ]
            refine dshowC.isSetTake (i := 7) (d := 60) (v := (.func (.method "gazetteer/data.show") #[.iface 94 (.agg #[])] #[])) rfl rfl (by kernel_rfl) (by kernel_rfl) (by kernel_rfl) (fun _ _ _ h => h) (by kernel_rfl) rfl (Or.inl ⟨by kernel_rfl, ?_⟩) hS0 ?_
            · intro wz hSw
              obtain ⟨hcz, hBz⟩ := hSw
              go_simp; first | done | kernel_rfl
            try simp only [Act.put, List.setIfInBounds_toArray, List.set_cons_zero, List.set_cons_succ]
            refine dshowC.isSetTake (i := 8) (d := 61) (v := .iface 94 (.agg #[])) rfl rfl (by kernel_rfl) (by kernel_rfl) (by kernel_rfl) (fun _ _ _ h => h) (by kernel_rfl) rfl (Or.inl ⟨by kernel_rfl, ?_⟩) hS0 ?_
            · intro wz hSw
              obtain ⟨hcz, hBz⟩ := hSw
              go_simp
            try simp only [Act.put, List.setIfInBounds_toArray, List.set_cons_zero, List.set_cons_succ]
            refine heldG.readyG (rs := [9]) (by kernel_rfl) (by simp) ?_
            refine heldG.AllG.cons rfl (fun KK hKK => ?_) heldG.AllG.nil
            go_simp
            refine (tail_show X _ hXs).mono ?_
            rintro e w5 ⟨hB5, u, rfl, hlv⟩
            have hB5w := HB.out.drew.trans (hB5.mono (by have := HB.out.size; simpa using this))
            have hS1 : w5.cell? ⟨g, o + k, none⟩ = some (.string X) ∧ Below w3.heap.size w3 w5 := ⟨(hB5.cell (p := ⟨g, o + k, none⟩) (by simpa using hgw)).trans hcP, hB5w⟩
            have HO5 := Lib.hid (own_below (w := wr.drew) (own_drew HOWN.out) hB5)
            dsimp only
            refine hKK.out _ _ (fun _ => hS1) ?_; clear hKK KK
            try simp only [Act.put, List.setIfInBounds_toArray, List.set_cons_zero, List.set_cons_succ]
            refine heldG.readyG (rs := [10]) (by kernel_rfl) (by simp) ?_
            refine heldG.AllG.cons rfl (fun KK hKK => ?_) heldG.AllG.nil
            refine step_append_lv (by rfl) (.tmp 53) (.tmp 62) (by rfl) w3.heap.size u12 P (by simp [Act.eval]) HO5.out _ _ u (by simp [Act.eval]) hlv HLEN.out hB5w.size ?_
            intro v' w6 hown6 hgrow
            rw [HXD.out] at hown6
            have HO6 := Lib.hid hown6
            have HB6 := Lib.hid (hB5w.grown hgrow hB5w.size (fun k hk => (HO5.out.lt k hk).1))
            clear hown6 hgrow
            refine hKK.out _ _ (fun _ => ⟨(HB6.out.cell (p := ⟨g, o + k, none⟩) hg).trans HC3.out, HB6.out⟩) ?_; clear hKK KK
            try simp only [Act.put, List.setIfInBounds_toArray]
            refine heldG.readyG (rs := [11]) (by kernel_rfl) (by simp) ?_
            refine heldG.AllG.cons rfl (fun KK hKK => ?_) heldG.AllG.nil
            go_simp
            refine hKK.out _ _ (fun h => absurd h (by decide)) ?_; clear hKK KK
            try simp only [Act.put, List.setIfInBounds_toArray, List.set_cons_zero, List.set_cons_succ]
            refine heldG.doneG (by kernel_rfl) ?_ _
            clear hcP HXD
            go_wp2_with fail
            have hkg := HKG.out
            go_roundg (gk - 1)
            case rel => exact ⟨k + 1, _, by go_num, by omega, by omega, HTOT.out, HST, HO6, HB6⟩
            case measure => omega
          | hexes =>
            simp only [fldV]
            refine heldG.regionG (fun w' => w'.cell? ⟨g, o + k, none⟩ = some (.string X) ∧ Below w3.heap.size w3 w') (fun i => decide (11 ≤ i)) (by kernel_rfl) ?_
            have hS0 : wr.drew.cell? ⟨g, o + k, none⟩ = some (.string X) ∧ Below w3.heap.size w3 wr.drew := ⟨hcP, HB.out.drew⟩
            refine dshowC.isSetTake (i := 0) (d := 53) (v := u12) rfl rfl (by kernel_rfl) (by kernel_rfl) (by kernel_rfl) (fun _ _ _ h => h) (by kernel_rfl) rfl (Or.inl ⟨by kernel_rfl, ?_⟩) hS0 ?_
            · intro wz hSw
              obtain ⟨hcz, hBz⟩ := hSw
              go_simp
            try simp only [Act.put, List.setIfInBounds_toArray, List.set_cons_zero, List.set_cons_succ]
            refine dshowC.isSetTake (i := 1) (d := 54) (v := .iface 88 (.agg #[])) rfl rfl (by kernel_rfl) (by kernel_rfl) (by kernel_rfl) (fun _ _ _ h => h) (by kernel_rfl) rfl (Or.inl ⟨by kernel_rfl, ?_⟩) hS0 ?_
            · intro wz hSw
              obtain ⟨hcz, hBz⟩ := hSw
              go_simp
            try simp only [Act.put, List.setIfInBounds_toArray, List.set_cons_zero, List.set_cons_succ]
            refine dshowC.isSetTake (i := 2) (d := 55) (v := .slice (some ⟨g, o, none⟩) n c) rfl rfl (by kernel_rfl) (by kernel_rfl) (by kernel_rfl) (fun _ _ _ h => h) (by kernel_rfl) rfl (Or.inl ⟨by kernel_rfl, ?_⟩) hS0 ?_
            · intro wz hSw
              obtain ⟨hcz, hBz⟩ := hSw
              go_simp
            try simp only [Act.put, List.setIfInBounds_toArray, List.set_cons_zero, List.set_cons_succ]
            refine dshowC.isSetTake (i := 3) (d := 56) (v := .int .i64 (k : Int)) rfl rfl (by kernel_rfl) (by kernel_rfl) (by kernel_rfl) (fun _ _ _ h => h) (by kernel_rfl) rfl (Or.inl ⟨by kernel_rfl, ?_⟩) hS0 ?_
            · intro wz hSw
              obtain ⟨hcz, hBz⟩ := hSw
              go_simp
            try simp only [Act.put, List.setIfInBounds_toArray, List.set_cons_zero, List.set_cons_succ]
            refine dshowC.isSetTake (i := 4) (d := 57) (v := .pointer (some ⟨g, o + k, none⟩)) rfl rfl (by kernel_rfl) (by kernel_rfl) (by kernel_rfl) (fun _ _ _ h => h) (by kernel_rfl) rfl (Or.inl ⟨by kernel_rfl, ?_⟩) hS0 ?_
            · intro wz hSw
              obtain ⟨hcz, hBz⟩ := hSw
              go_simp; try (intro h0; exfalso; omega)
            try simp only [Act.put, List.setIfInBounds_toArray, List.set_cons_zero, List.set_cons_succ]
            refine dshowC.isSetTake (i := 5) (d := 58) (v := .string X) rfl rfl (by kernel_rfl) (by kernel_rfl) (by kernel_rfl) (fun _ _ _ h => h) (by kernel_rfl) rfl (Or.inl ⟨by kernel_rfl, ?_⟩) hS0 ?_
            · intro wz hSw
              obtain ⟨hcz, hBz⟩ := hSw
              go_simp
            try simp only [Act.put, List.setIfInBounds_toArray, List.set_cons_zero, List.set_cons_succ]
            refine dshowC.isSetTake (i := 6) (d := 59) (v := (.func (.method "gazetteer/data.show") #[.iface 88 (.agg #[])] #[])) rfl rfl (by kernel_rfl) (by kernel_rfl) (by kernel_rfl) (fun _ _ _ h => h) (by kernel_rfl) rfl (Or.inl ⟨by kernel_rfl, ?_⟩) hS0 ?_
            · intro wz hSw
              obtain ⟨hcz, hBz⟩ := hSw
              go_simp
            try simp only [Act.put, List.setIfInBounds_toArray, List.set_cons_zero, List.set_cons_succ]
            refine dshowC.isSetTake (i := 7) (d := 60) (v := (.func (.method "gazetteer/data.show") #[.iface 88 (.agg #[])] #[])) rfl rfl (by kernel_rfl) (by kernel_rfl) (by kernel_rfl) (fun _ _ _ h => h) (by kernel_rfl) rfl (Or.inl ⟨by kernel_rfl, ?_⟩) hS0 ?_
            · intro wz hSw
              obtain ⟨hcz, hBz⟩ := hSw
              go_simp; first | done | kernel_rfl
            try simp only [Act.put, List.setIfInBounds_toArray, List.set_cons_zero, List.set_cons_succ]
            refine dshowC.isSetTake (i := 8) (d := 61) (v := .iface 88 (.agg #[])) rfl rfl (by kernel_rfl) (by kernel_rfl) (by kernel_rfl) (fun _ _ _ h => h) (by kernel_rfl) rfl (Or.inl ⟨by kernel_rfl, ?_⟩) hS0 ?_
            · intro wz hSw
              obtain ⟨hcz, hBz⟩ := hSw
              go_simp
            try simp only [Act.put, List.setIfInBounds_toArray, List.set_cons_zero, List.set_cons_succ]
            refine heldG.readyG (rs := [9]) (by kernel_rfl) (by simp) ?_
            refine heldG.AllG.cons rfl (fun KK hKK => ?_) heldG.AllG.nil
            go_simp
            refine (hexes_show X _ hXs).mono ?_
            rintro e w5 ⟨hB5, u, rfl, hlv⟩
            have hB5w := HB.out.drew.trans (hB5.mono (by have := HB.out.size; simpa using this))
            have hS1 : w5.cell? ⟨g, o + k, none⟩ = some (.string X) ∧ Below w3.heap.size w3 w5 := ⟨(hB5.cell (p := ⟨g, o + k, none⟩) (by simpa using hgw)).trans hcP, hB5w⟩
            have HO5 := Lib.hid (own_below (w := wr.drew) (own_drew HOWN.out) hB5)
            dsimp only
            refine hKK.out _ _ (fun _ => hS1) ?_; clear hKK KK
            try simp only [Act.put, List.setIfInBounds_toArray, List.set_cons_zero, List.set_cons_succ]
            refine heldG.readyG (rs := [10]) (by kernel_rfl) (by simp) ?_
            refine heldG.AllG.cons rfl (fun KK hKK => ?_) heldG.AllG.nil
            refine step_append_lv (by rfl) (.tmp 53) (.tmp 62) (by rfl) w3.heap.size u12 P (by simp [Act.eval]) HO5.out _ _ u (by simp [Act.eval]) hlv HLEN.out hB5w.size ?_
            intro v' w6 hown6 hgrow
            rw [HXD.out] at hown6
            have HO6 := Lib.hid hown6
            have HB6 := Lib.hid (hB5w.grown hgrow hB5w.size (fun k hk => (HO5.out.lt k hk).1))
            clear hown6 hgrow
            refine hKK.out _ _ (fun _ => ⟨(HB6.out.cell (p := ⟨g, o + k, none⟩) hg).trans HC3.out, HB6.out⟩) ?_; clear hKK KK
            try simp only [Act.put, List.setIfInBounds_toArray]
            refine heldG.readyG (rs := [11]) (by kernel_rfl) (by simp) ?_
            refine heldG.AllG.cons rfl (fun KK hKK => ?_) heldG.AllG.nil
            go_simp
            refine hKK.out _ _ (fun h => absurd h (by decide)) ?_; clear hKK KK
            try simp only [Act.put, List.setIfInBounds_toArray, List.set_cons_zero, List.set_cons_succ]
            refine heldG.doneG (by kernel_rfl) ?_ _
            clear hcP HXD
            go_wp2_with fail
            have hkg := HKG.out
            go_roundg (gk - 1)
            case rel => exact ⟨k + 1, _, by go_num, by omega, by omega, HTOT.out, HST, HO6, HB6⟩
            case measure => omega
          | b64 =>
            simp only [fldV]
            refine heldG.regionG (fun w' => w'.cell? ⟨g, o + k, none⟩ = some (.string X) ∧ Below w3.heap.size w3 w') (fun i => decide (11 ≤ i)) (by kernel_rfl) ?_
            have hS0 : wr.drew.cell? ⟨g, o + k, none⟩ = some (.string X) ∧ Below w3.heap.size w3 wr.drew := ⟨hcP, HB.out.drew⟩
            refine dshowC.isSetTake (i := 0) (d := 53) (v := u12) rfl rfl (by kernel_rfl) (by kernel_rfl) (by kernel_rfl) (fun _ _ _ h => h) (by kernel_rfl) rfl (Or.inl ⟨by kernel_rfl, ?_⟩) hS0 ?_
            · intro wz hSw
              obtain ⟨hcz, hBz⟩ := hSw
              go_simp
            try simp only [Act.put, List.setIfInBounds_toArray, List.set_cons_zero, List.set_cons_succ]
            refine dshowC.isSetTake (i := 1) (d := 54) (v := .iface 90 (.agg #[])) rfl rfl (by kernel_rfl) (by kernel_rfl) (by kernel_rfl) (fun _ _ _ h => h) (by kernel_rfl) rfl (Or.inl ⟨by kernel_rfl, ?_⟩) hS0 ?_
            · intro wz hSw
              obtain ⟨hcz, hBz⟩ := hSw
              go_simp
            try simp only [Act.put, List.setIfInBounds_toArray, List.set_cons_zero, List.set_cons_succ]
            refine dshowC.isSetTake (i := 2) (d := 55) (v := .slice (some ⟨g, o, none⟩) n c) rfl rfl (by kernel_rfl) (by kernel_rfl) (by kernel_rfl) (fun _ _ _ h => h) (by kernel_rfl) rfl (Or.inl ⟨by kernel_rfl, ?_⟩) hS0 ?_
            · intro wz hSw
              obtain ⟨hcz, hBz⟩ := hSw
              go_simp
            try simp only [Act.put, List.setIfInBounds_toArray, List.set_cons_zero, List.set_cons_succ]
            refine dshowC.isSetTake (i := 3) (d := 56) (v := .int .i64 (k : Int)) rfl rfl (by kernel_rfl) (by kernel_rfl) (by kernel_rfl) (fun _ _ _ h => h) (by kernel_rfl) rfl (Or.inl ⟨by kernel_rfl, ?_⟩) hS0 ?_
            · intro wz hSw
              obtain ⟨hcz, hBz⟩ := hSw
              go_simp
            try simp only [Act.put, List.setIfInBounds_toArray, List.set_cons_zero, List.set_cons_succ]
            refine dshowC.isSetTake (i := 4) (d := 57) (v := .pointer (some ⟨g, o + k, none⟩)) rfl rfl (by kernel_rfl) (by kernel_rfl) (by kernel_rfl) (fun _ _ _ h => h) (by kernel_rfl) rfl (Or.inl ⟨by kernel_rfl, ?_⟩) hS0 ?_
            · intro wz hSw
              obtain ⟨hcz, hBz⟩ := hSw
              go_simp; try (intro h0; exfalso; omega)
            try simp only [Act.put, List.setIfInBounds_toArray, List.set_cons_zero, List.set_cons_succ]
            refine dshowC.isSetTake (i := 5) (d := 58) (v := .string X) rfl rfl (by kernel_rfl) (by kernel_rfl) (by kernel_rfl) (fun _ _ _ h => h) (by kernel_rfl) rfl (Or.inl ⟨by kernel_rfl, ?_⟩) hS0 ?_
            · intro wz hSw
              obtain ⟨hcz, hBz⟩ := hSw
              go_simp
            try simp only [Act.put, List.setIfInBounds_toArray, List.set_cons_zero, List.set_cons_succ]
            refine dshowC.isSetTake (i := 6) (d := 59) (v := (.func (.method "gazetteer/data.show") #[.iface 90 (.agg #[])] #[])) rfl rfl (by kernel_rfl) (by kernel_rfl) (by kernel_rfl) (fun _ _ _ h => h) (by kernel_rfl) rfl (Or.inl ⟨by kernel_rfl, ?_⟩) hS0 ?_
            · intro wz hSw
              obtain ⟨hcz, hBz⟩ := hSw
              go_simp
            try simp only [Act.put, List.setIfInBounds_toArray, List.set_cons_zero, List.set_cons_succ]
            refine dshowC.isSetTake (i := 7) (d := 60) (v := (.func (.method "gazetteer/data.show") #[.iface 90 (.agg #[])] #[])) rfl rfl (by kernel_rfl) (by kernel_rfl) (by kernel_rfl) (fun _ _ _ h => h) (by kernel_rfl) rfl (Or.inl ⟨by kernel_rfl, ?_⟩) hS0 ?_
            · intro wz hSw
              obtain ⟨hcz, hBz⟩ := hSw
              go_simp; first | done | kernel_rfl
            try simp only [Act.put, List.setIfInBounds_toArray, List.set_cons_zero, List.set_cons_succ]
            refine dshowC.isSetTake (i := 8) (d := 61) (v := .iface 90 (.agg #[])) rfl rfl (by kernel_rfl) (by kernel_rfl) (by kernel_rfl) (fun _ _ _ h => h) (by kernel_rfl) rfl (Or.inl ⟨by kernel_rfl, ?_⟩) hS0 ?_
            · intro wz hSw
              obtain ⟨hcz, hBz⟩ := hSw
              go_simp
            try simp only [Act.put, List.setIfInBounds_toArray, List.set_cons_zero, List.set_cons_succ]
            refine heldG.readyG (rs := [9]) (by kernel_rfl) (by simp) ?_
            refine heldG.AllG.cons rfl (fun KK hKK => ?_) heldG.AllG.nil
            go_simp
            refine (dshowE.b64_show X _ hXs).mono ?_
            rintro e w5 ⟨hB5, u, rfl, hlv⟩
            have hB5w := HB.out.drew.trans (hB5.mono (by have := HB.out.size; simpa using this))
            have hS1 : w5.cell? ⟨g, o + k, none⟩ = some (.string X) ∧ Below w3.heap.size w3 w5 := ⟨(hB5.cell (p := ⟨g, o + k, none⟩) (by simpa using hgw)).trans hcP, hB5w⟩
            have HO5 := Lib.hid (own_below (w := wr.drew) (own_drew HOWN.out) hB5)
            dsimp only
            refine hKK.out _ _ (fun _ => hS1) ?_; clear hKK KK
            try simp only [Act.put, List.setIfInBounds_toArray, List.set_cons_zero, List.set_cons_succ]
            refine heldG.readyG (rs := [10]) (by kernel_rfl) (by simp) ?_
            refine heldG.AllG.cons rfl (fun KK hKK => ?_) heldG.AllG.nil
            refine step_append_lv (by rfl) (.tmp 53) (.tmp 62) (by rfl) w3.heap.size u12 P (by simp [Act.eval]) HO5.out _ _ u (by simp [Act.eval]) hlv HLEN.out hB5w.size ?_
            intro v' w6 hown6 hgrow
            rw [HXD.out] at hown6
            have HO6 := Lib.hid hown6
            have HB6 := Lib.hid (hB5w.grown hgrow hB5w.size (fun k hk => (HO5.out.lt k hk).1))
            clear hown6 hgrow
            refine hKK.out _ _ (fun _ => ⟨(HB6.out.cell (p := ⟨g, o + k, none⟩) hg).trans HC3.out, HB6.out⟩) ?_; clear hKK KK
            try simp only [Act.put, List.setIfInBounds_toArray]
            refine heldG.readyG (rs := [11]) (by kernel_rfl) (by simp) ?_
            refine heldG.AllG.cons rfl (fun KK hKK => ?_) heldG.AllG.nil
            go_simp
            refine hKK.out _ _ (fun h => absurd h (by decide)) ?_; clear hKK KK
            try simp only [Act.put, List.setIfInBounds_toArray, List.set_cons_zero, List.set_cons_succ]
            refine heldG.doneG (by kernel_rfl) ?_ _
            clear hcP HXD
            go_wp2_with fail
            have hkg := HKG.out
            go_roundg (gk - 1)
            case rel => exact ⟨k + 1, _, by go_num, by omega, by omega, HTOT.out, HST, HO6, HB6⟩
            case measure => omega
          | kind =>
            have hxn : X.size ≤ 2 := by have := ok_kind HOKX.out; rw [size_len] at this; omega
            simp only [fldV]
            refine heldG.regionG (fun w' => w'.cell? ⟨g, o + k, none⟩ = some (.string X) ∧ Below w3.heap.size w3 w') (fun i => decide (11 ≤ i)) (by kernel_rfl) ?_
            have hS0 : wr.drew.cell? ⟨g, o + k, none⟩ = some (.string X) ∧ Below w3.heap.size w3 wr.drew := ⟨hcP, HB.out.drew⟩
            refine dshowC.isSetTake (i := 0) (d := 53) (v := u12) rfl rfl (by kernel_rfl) (by kernel_rfl) (by kernel_rfl) (fun _ _ _ h => h) (by kernel_rfl) rfl (Or.inl ⟨by kernel_rfl, ?_⟩) hS0 ?_
            · intro wz hSw
              obtain ⟨hcz, hBz⟩ := hSw
              go_simp
            try simp only [Act.put, List.setIfInBounds_toArray, List.set_cons_zero, List.set_cons_succ]
            refine dshowC.isSetTake (i := 1) (d := 54) (v := .iface 89 (.agg #[])) rfl rfl (by kernel_rfl) (by kernel_rfl) (by kernel_rfl) (fun _ _ _ h => h) (by kernel_rfl) rfl (Or.inl ⟨by kernel_rfl, ?_⟩) hS0 ?_
            · intro wz hSw
              obtain ⟨hcz, hBz⟩ := hSw
              go_simp
            try simp only [Act.put, List.setIfInBounds_toArray, List.set_cons_zero, List.set_cons_succ]
            refine dshowC.isSetTake (i := 2) (d := 55) (v := .slice (some ⟨g, o, none⟩) n c) rfl rfl (by kernel_rfl) (by kernel_rfl) (by kernel_rfl) (fun _ _ _ h => h) (by kernel_rfl) rfl (Or.inl ⟨by kernel_rfl, ?_⟩) hS0 ?_
            · intro wz hSw
              obtain ⟨hcz, hBz⟩ := hSw
              go_simp
            try simp only [Act.put, List.setIfInBounds_toArray, List.set_cons_zero, List.set_cons_succ]
            refine dshowC.isSetTake (i := 3) (d := 56) (v := .int .i64 (k : Int)) rfl rfl (by kernel_rfl) (by kernel_rfl) (by kernel_rfl) (fun _ _ _ h => h) (by kernel_rfl) rfl (Or.inl ⟨by kernel_rfl, ?_⟩) hS0 ?_
            · intro wz hSw
              obtain ⟨hcz, hBz⟩ := hSw
              go_simp
            try simp only [Act.put, List.setIfInBounds_toArray, List.set_cons_zero, List.set_cons_succ]
            refine dshowC.isSetTake (i := 4) (d := 57) (v := .pointer (some ⟨g, o + k, none⟩)) rfl rfl (by kernel_rfl) (by kernel_rfl) (by kernel_rfl) (fun _ _ _ h => h) (by kernel_rfl) rfl (Or.inl ⟨by kernel_rfl, ?_⟩) hS0 ?_
            · intro wz hSw
              obtain ⟨hcz, hBz⟩ := hSw
              go_simp; try (intro h0; exfalso; omega)
            try simp only [Act.put, List.setIfInBounds_toArray, List.set_cons_zero, List.set_cons_succ]
            refine dshowC.isSetTake (i := 5) (d := 58) (v := .string X) rfl rfl (by kernel_rfl) (by kernel_rfl) (by kernel_rfl) (fun _ _ _ h => h) (by kernel_rfl) rfl (Or.inl ⟨by kernel_rfl, ?_⟩) hS0 ?_
            · intro wz hSw
              obtain ⟨hcz, hBz⟩ := hSw
              go_simp
            try simp only [Act.put, List.setIfInBounds_toArray, List.set_cons_zero, List.set_cons_succ]
            refine dshowC.isSetTake (i := 6) (d := 59) (v := (.func (.method "gazetteer/data.show") #[.iface 89 (.agg #[])] #[])) rfl rfl (by kernel_rfl) (by kernel_rfl) (by kernel_rfl) (fun _ _ _ h => h) (by kernel_rfl) rfl (Or.inl ⟨by kernel_rfl, ?_⟩) hS0 ?_
            · intro wz hSw
              obtain ⟨hcz, hBz⟩ := hSw
              go_simp
            try simp only [Act.put, List.setIfInBounds_toArray, List.set_cons_zero, List.set_cons_succ]
            refine dshowC.isSetTake (i := 7) (d := 60) (v := (.func (.method "gazetteer/data.show") #[.iface 89 (.agg #[])] #[])) rfl rfl (by kernel_rfl) (by kernel_rfl) (by kernel_rfl) (fun _ _ _ h => h) (by kernel_rfl) rfl (Or.inl ⟨by kernel_rfl, ?_⟩) hS0 ?_
            · intro wz hSw
              obtain ⟨hcz, hBz⟩ := hSw
              go_simp; first | done | kernel_rfl
            try simp only [Act.put, List.setIfInBounds_toArray, List.set_cons_zero, List.set_cons_succ]
            refine dshowC.isSetTake (i := 8) (d := 61) (v := .iface 89 (.agg #[])) rfl rfl (by kernel_rfl) (by kernel_rfl) (by kernel_rfl) (fun _ _ _ h => h) (by kernel_rfl) rfl (Or.inl ⟨by kernel_rfl, ?_⟩) hS0 ?_
            · intro wz hSw
              obtain ⟨hcz, hBz⟩ := hSw
              go_simp
            try simp only [Act.put, List.setIfInBounds_toArray, List.set_cons_zero, List.set_cons_succ]
            refine heldG.readyG (rs := [9]) (by kernel_rfl) (by simp) ?_
            refine heldG.AllG.cons rfl (fun KK hKK => ?_) heldG.AllG.nil
            go_simp
            refine (kind_show X _ hxn HPW.out).mono ?_
            rintro e w5 ⟨hB5, u, rfl, hlv⟩
            have hB5w := HB.out.drew.trans (hB5.mono (by have := HB.out.size; simpa using this))
            have hS1 : w5.cell? ⟨g, o + k, none⟩ = some (.string X) ∧ Below w3.heap.size w3 w5 := ⟨(hB5.cell (p := ⟨g, o + k, none⟩) (by simpa using hgw)).trans hcP, hB5w⟩
            have HO5 := Lib.hid (own_below (w := wr.drew) (own_drew HOWN.out) hB5)
            dsimp only
            refine hKK.out _ _ (fun _ => hS1) ?_; clear hKK KK
            try simp only [Act.put, List.setIfInBounds_toArray, List.set_cons_zero, List.set_cons_succ]
            refine heldG.readyG (rs := [10]) (by kernel_rfl) (by simp) ?_
            refine heldG.AllG.cons rfl (fun KK hKK => ?_) heldG.AllG.nil
            refine step_append_lv (by rfl) (.tmp 53) (.tmp 62) (by rfl) w3.heap.size u12 P (by simp [Act.eval]) HO5.out _ _ u (by simp [Act.eval]) hlv HLEN.out hB5w.size ?_
            intro v' w6 hown6 hgrow
            rw [HXD.out] at hown6
            have HO6 := Lib.hid hown6
            have HB6 := Lib.hid (hB5w.grown hgrow hB5w.size (fun k hk => (HO5.out.lt k hk).1))
            clear hown6 hgrow
            refine hKK.out _ _ (fun _ => ⟨(HB6.out.cell (p := ⟨g, o + k, none⟩) hg).trans HC3.out, HB6.out⟩) ?_; clear hKK KK
            try simp only [Act.put, List.setIfInBounds_toArray]
            refine heldG.readyG (rs := [11]) (by kernel_rfl) (by simp) ?_
            refine heldG.AllG.cons rfl (fun KK hKK => ?_) heldG.AllG.nil
            go_simp
            refine hKK.out _ _ (fun h => absurd h (by decide)) ?_; clear hKK KK
            try simp only [Act.put, List.setIfInBounds_toArray, List.set_cons_zero, List.set_cons_succ]
            refine heldG.doneG (by kernel_rfl) ?_ _
            clear hcP HXD
            go_wp2_with fail
            have hkg := HKG.out
            go_roundg (gk - 1)
            case rel => exact ⟨k + 1, _, by go_num, by omega, by omega, HTOT.out, HST, HO6, HB6⟩
            case measure => omega
          | kinds =>
            simp only [fldV]
            refine heldG.regionG (fun w' => w'.cell? ⟨g, o + k, none⟩ = some (.string X) ∧ Below w3.heap.size w3 w') (fun i => decide (11 ≤ i)) (by kernel_rfl) ?_
            have hS0 : wr.drew.cell? ⟨g, o + k, none⟩ = some (.string X) ∧ Below w3.heap.size w3 wr.drew := ⟨hcP, HB.out.drew⟩
            refine dshowC.isSetTake (i := 0) (d := 53) (v := u12) rfl rfl (by kernel_rfl) (by kernel_rfl) (by kernel_rfl) (fun _ _ _ h => h) (by kernel_rfl) rfl (Or.inl ⟨by kernel_rfl, ?_⟩) hS0 ?_
            · intro wz hSw
              obtain ⟨hcz, hBz⟩ := hSw
              go_simp
            try simp only [Act.put, List.setIfInBounds_toArray, List.set_cons_zero, List.set_cons_succ]
            refine dshowC.isSetTake (i := 1) (d := 54) (v := .iface 91 (.agg #[])) rfl rfl (by kernel_rfl) (by kernel_rfl) (by kernel_rfl) (fun _ _ _ h => h) (by kernel_rfl) rfl (Or.inl ⟨by kernel_rfl, ?_⟩) hS0 ?_
            · intro wz hSw
              obtain ⟨hcz, hBz⟩ := hSw
              go_simp
            try simp only [Act.put, List.setIfInBounds_toArray, List.set_cons_zero, List.set_cons_succ]
            refine dshowC.isSetTake (i := 2) (d := 55) (v := .slice (some ⟨g, o, none⟩) n c) rfl rfl (by kernel_rfl) (by kernel_rfl) (by kernel_rfl) (fun _ _ _ h => h) (by kernel_rfl) rfl (Or.inl ⟨by kernel_rfl, ?_⟩) hS0 ?_
            · intro wz hSw
              obtain ⟨hcz, hBz⟩ := hSw
              go_simp
            try simp only [Act.put, List.setIfInBounds_toArray, List.set_cons_zero, List.set_cons_succ]
            refine dshowC.isSetTake (i := 3) (d := 56) (v := .int .i64 (k : Int)) rfl rfl (by kernel_rfl) (by kernel_rfl) (by kernel_rfl) (fun _ _ _ h => h) (by kernel_rfl) rfl (Or.inl ⟨by kernel_rfl, ?_⟩) hS0 ?_
            · intro wz hSw
              obtain ⟨hcz, hBz⟩ := hSw
              go_simp
            try simp only [Act.put, List.setIfInBounds_toArray, List.set_cons_zero, List.set_cons_succ]
            refine dshowC.isSetTake (i := 4) (d := 57) (v := .pointer (some ⟨g, o + k, none⟩)) rfl rfl (by kernel_rfl) (by kernel_rfl) (by kernel_rfl) (fun _ _ _ h => h) (by kernel_rfl) rfl (Or.inl ⟨by kernel_rfl, ?_⟩) hS0 ?_
            · intro wz hSw
              obtain ⟨hcz, hBz⟩ := hSw
              go_simp; try (intro h0; exfalso; omega)
            try simp only [Act.put, List.setIfInBounds_toArray, List.set_cons_zero, List.set_cons_succ]
            refine dshowC.isSetTake (i := 5) (d := 58) (v := .string X) rfl rfl (by kernel_rfl) (by kernel_rfl) (by kernel_rfl) (fun _ _ _ h => h) (by kernel_rfl) rfl (Or.inl ⟨by kernel_rfl, ?_⟩) hS0 ?_
            · intro wz hSw
              obtain ⟨hcz, hBz⟩ := hSw
              go_simp
            try simp only [Act.put, List.setIfInBounds_toArray, List.set_cons_zero, List.set_cons_succ]
            refine dshowC.isSetTake (i := 6) (d := 59) (v := (.func (.method "gazetteer/data.show") #[.iface 91 (.agg #[])] #[])) rfl rfl (by kernel_rfl) (by kernel_rfl) (by kernel_rfl) (fun _ _ _ h => h) (by kernel_rfl) rfl (Or.inl ⟨by kernel_rfl, ?_⟩) hS0 ?_
            · intro wz hSw
              obtain ⟨hcz, hBz⟩ := hSw
              go_simp
            try simp only [Act.put, List.setIfInBounds_toArray, List.set_cons_zero, List.set_cons_succ]
            refine dshowC.isSetTake (i := 7) (d := 60) (v := (.func (.method "gazetteer/data.show") #[.iface 91 (.agg #[])] #[])) rfl rfl (by kernel_rfl) (by kernel_rfl) (by kernel_rfl) (fun _ _ _ h => h) (by kernel_rfl) rfl (Or.inl ⟨by kernel_rfl, ?_⟩) hS0 ?_
            · intro wz hSw
              obtain ⟨hcz, hBz⟩ := hSw
              go_simp; first | done | kernel_rfl
            try simp only [Act.put, List.setIfInBounds_toArray, List.set_cons_zero, List.set_cons_succ]
            refine dshowC.isSetTake (i := 8) (d := 61) (v := .iface 91 (.agg #[])) rfl rfl (by kernel_rfl) (by kernel_rfl) (by kernel_rfl) (fun _ _ _ h => h) (by kernel_rfl) rfl (Or.inl ⟨by kernel_rfl, ?_⟩) hS0 ?_
            · intro wz hSw
              obtain ⟨hcz, hBz⟩ := hSw
              go_simp
            try simp only [Act.put, List.setIfInBounds_toArray, List.set_cons_zero, List.set_cons_succ]
            refine heldG.readyG (rs := [9]) (by kernel_rfl) (by simp) ?_
            refine heldG.AllG.cons rfl (fun KK hKK => ?_) heldG.AllG.nil
            go_simp
            refine (dshowD.kinds_show X _ hXs HOKX.out HPW.out).mono ?_
            rintro e w5 ⟨hB5, u, rfl, hlv⟩
            have hB5w := HB.out.drew.trans (hB5.mono (by have := HB.out.size; simpa using this))
            have hS1 : w5.cell? ⟨g, o + k, none⟩ = some (.string X) ∧ Below w3.heap.size w3 w5 := ⟨(hB5.cell (p := ⟨g, o + k, none⟩) (by simpa using hgw)).trans hcP, hB5w⟩
            have HO5 := Lib.hid (own_below (w := wr.drew) (own_drew HOWN.out) hB5)
            dsimp only
            refine hKK.out _ _ (fun _ => hS1) ?_; clear hKK KK
            try simp only [Act.put, List.setIfInBounds_toArray, List.set_cons_zero, List.set_cons_succ]
            refine heldG.readyG (rs := [10]) (by kernel_rfl) (by simp) ?_
            refine heldG.AllG.cons rfl (fun KK hKK => ?_) heldG.AllG.nil
            refine step_append_lv (by rfl) (.tmp 53) (.tmp 62) (by rfl) w3.heap.size u12 P (by simp [Act.eval]) HO5.out _ _ u (by simp [Act.eval]) hlv HLEN.out hB5w.size ?_
            intro v' w6 hown6 hgrow
            rw [HXD.out] at hown6
            have HO6 := Lib.hid hown6
            have HB6 := Lib.hid (hB5w.grown hgrow hB5w.size (fun k hk => (HO5.out.lt k hk).1))
            clear hown6 hgrow
            refine hKK.out _ _ (fun _ => ⟨(HB6.out.cell (p := ⟨g, o + k, none⟩) hg).trans HC3.out, HB6.out⟩) ?_; clear hKK KK
            try simp only [Act.put, List.setIfInBounds_toArray]
            refine heldG.readyG (rs := [11]) (by kernel_rfl) (by simp) ?_
            refine heldG.AllG.cons rfl (fun KK hKK => ?_) heldG.AllG.nil
            go_simp
            refine hKK.out _ _ (fun h => absurd h (by decide)) ?_; clear hKK KK
            try simp only [Act.put, List.setIfInBounds_toArray, List.set_cons_zero, List.set_cons_succ]
            refine heldG.doneG (by kernel_rfl) ?_ _
            clear hcP HXD
            go_wp2_with fail
            have hkg := HKG.out
            go_roundg (gk - 1)
            case rel => exact ⟨k + 1, _, by go_num, by omega, by omega, HTOT.out, HST, HO6, HB6⟩
            case measure => omega
          | salt =>
            have hxn : 1 ≤ X.size := by have := ok_saltL HOKX.out; rwa [size_len] at this
            simp only [fldV]
            refine heldG.regionG (fun w' => w'.cell? ⟨g, o + k, none⟩ = some (.string X) ∧ Below w3.heap.size w3 w') (fun i => decide (11 ≤ i)) (by kernel_rfl) ?_
            have hS0 : wr.drew.cell? ⟨g, o + k, none⟩ = some (.string X) ∧ Below w3.heap.size w3 wr.drew := ⟨hcP, HB.out.drew⟩
            refine dshowC.isSetTake (i := 0) (d := 53) (v := u12) rfl rfl (by kernel_rfl) (by kernel_rfl) (by kernel_rfl) (fun _ _ _ h => h) (by kernel_rfl) rfl (Or.inl ⟨by kernel_rfl, ?_⟩) hS0 ?_
            · intro wz hSw
              obtain ⟨hcz, hBz⟩ := hSw
              go_simp
            try simp only [Act.put, List.setIfInBounds_toArray, List.set_cons_zero, List.set_cons_succ]
            refine dshowC.isSetTake (i := 1) (d := 54) (v := .iface 92 (.agg #[])) rfl rfl (by kernel_rfl) (by kernel_rfl) (by kernel_rfl) (fun _ _ _ h => h) (by kernel_rfl) rfl (Or.inl ⟨by kernel_rfl, ?_⟩) hS0 ?_
            · intro wz hSw
              obtain ⟨hcz, hBz⟩ := hSw
              go_simp
            try simp only [Act.put, List.setIfInBounds_toArray, List.set_cons_zero, List.set_cons_succ]
            refine dshowC.isSetTake (i := 2) (d := 55) (v := .slice (some ⟨g, o, none⟩) n c) rfl rfl (by kernel_rfl) (by kernel_rfl) (by kernel_rfl) (fun _ _ _ h => h) (by kernel_rfl) rfl (Or.inl ⟨by kernel_rfl, ?_⟩) hS0 ?_
            · intro wz hSw
              obtain ⟨hcz, hBz⟩ := hSw
              go_simp
            try simp only [Act.put, List.setIfInBounds_toArray, List.set_cons_zero, List.set_cons_succ]
            refine dshowC.isSetTake (i := 3) (d := 56) (v := .int .i64 (k : Int)) rfl rfl (by kernel_rfl) (by kernel_rfl) (by kernel_rfl) (fun _ _ _ h => h) (by kernel_rfl) rfl (Or.inl ⟨by kernel_rfl, ?_⟩) hS0 ?_
            · intro wz hSw
              obtain ⟨hcz, hBz⟩ := hSw
              go_simp
            try simp only [Act.put, List.setIfInBounds_toArray, List.set_cons_zero, List.set_cons_succ]
            refine dshowC.isSetTake (i := 4) (d := 57) (v := .pointer (some ⟨g, o + k, none⟩)) rfl rfl (by kernel_rfl) (by kernel_rfl) (by kernel_rfl) (fun _ _ _ h => h) (by kernel_rfl) rfl (Or.inl ⟨by kernel_rfl, ?_⟩) hS0 ?_
            · intro wz hSw
              obtain ⟨hcz, hBz⟩ := hSw
              go_simp; try (intro h0; exfalso; omega)
            try simp only [Act.put, List.setIfInBounds_toArray, List.set_cons_zero, List.set_cons_succ]
            refine dshowC.isSetTake (i := 5) (d := 58) (v := .string X) rfl rfl (by kernel_rfl) (by kernel_rfl) (by kernel_rfl) (fun _ _ _ h => h) (by kernel_rfl) rfl (Or.inl ⟨by kernel_rfl, ?_⟩) hS0 ?_
            · intro wz hSw
              obtain ⟨hcz, hBz⟩ := hSw
              go_simp
            try simp only [Act.put, List.setIfInBounds_toArray, List.set_cons_zero, List.set_cons_succ]
            refine dshowC.isSetTake (i := 6) (d := 59) (v := (.func (.method "gazetteer/data.show") #[.iface 92 (.agg #[])] #[])) rfl rfl (by kernel_rfl) (by kernel_rfl) (by kernel_rfl) (fun _ _ _ h => h) (by kernel_rfl) rfl (Or.inl ⟨by kernel_rfl, ?_⟩) hS0 ?_
            · intro wz hSw
              obtain ⟨hcz, hBz⟩ := hSw
              go_simp
            try simp only [Act.put, List.setIfInBounds_toArray, List.set_cons_zero, List.set_cons_succ]
            refine dshowC.isSetTake (i := 7) (d := 60) (v := (.func (.method "gazetteer/data.show") #[.iface 92 (.agg #[])] #[])) rfl rfl (by kernel_rfl) (by kernel_rfl) (by kernel_rfl) (fun _ _ _ h => h) (by kernel_rfl) rfl (Or.inl ⟨by kernel_rfl, ?_⟩) hS0 ?_
            · intro wz hSw
              obtain ⟨hcz, hBz⟩ := hSw
              go_simp; first | done | kernel_rfl
            try simp only [Act.put, List.setIfInBounds_toArray, List.set_cons_zero, List.set_cons_succ]
            refine dshowC.isSetTake (i := 8) (d := 61) (v := .iface 92 (.agg #[])) rfl rfl (by kernel_rfl) (by kernel_rfl) (by kernel_rfl) (fun _ _ _ h => h) (by kernel_rfl) rfl (Or.inl ⟨by kernel_rfl, ?_⟩) hS0 ?_
            · intro wz hSw
              obtain ⟨hcz, hBz⟩ := hSw
              go_simp
            try simp only [Act.put, List.setIfInBounds_toArray, List.set_cons_zero, List.set_cons_succ]
            refine heldG.readyG (rs := [9]) (by kernel_rfl) (by simp) ?_
            refine heldG.AllG.cons rfl (fun KK hKK => ?_) heldG.AllG.nil
            go_simp
            refine (salt_show X _ hXs hxn).mono ?_
            rintro e w5 ⟨hB5, u, rfl, hlv⟩
            have hB5w := HB.out.drew.trans (hB5.mono (by have := HB.out.size; simpa using this))
            have hS1 : w5.cell? ⟨g, o + k, none⟩ = some (.string X) ∧ Below w3.heap.size w3 w5 := ⟨(hB5.cell (p := ⟨g, o + k, none⟩) (by simpa using hgw)).trans hcP, hB5w⟩
            have HO5 := Lib.hid (own_below (w := wr.drew) (own_drew HOWN.out) hB5)
            dsimp only
            refine hKK.out _ _ (fun _ => hS1) ?_; clear hKK KK
            try simp only [Act.put, List.setIfInBounds_toArray, List.set_cons_zero, List.set_cons_succ]
            refine heldG.readyG (rs := [10]) (by kernel_rfl) (by simp) ?_
            refine heldG.AllG.cons rfl (fun KK hKK => ?_) heldG.AllG.nil
            refine step_append_lv (by rfl) (.tmp 53) (.tmp 62) (by rfl) w3.heap.size u12 P (by simp [Act.eval]) HO5.out _ _ u (by simp [Act.eval]) hlv HLEN.out hB5w.size ?_
            intro v' w6 hown6 hgrow
            rw [HXD.out] at hown6
            have HO6 := Lib.hid hown6
            have HB6 := Lib.hid (hB5w.grown hgrow hB5w.size (fun k hk => (HO5.out.lt k hk).1))
            clear hown6 hgrow
            refine hKK.out _ _ (fun _ => ⟨(HB6.out.cell (p := ⟨g, o + k, none⟩) hg).trans HC3.out, HB6.out⟩) ?_; clear hKK KK
            try simp only [Act.put, List.setIfInBounds_toArray]
            refine heldG.readyG (rs := [11]) (by kernel_rfl) (by simp) ?_
            refine heldG.AllG.cons rfl (fun KK hKK => ?_) heldG.AllG.nil
            go_simp
            refine hKK.out _ _ (fun h => absurd h (by decide)) ?_; clear hKK KK
            try simp only [Act.put, List.setIfInBounds_toArray, List.set_cons_zero, List.set_cons_succ]
            refine heldG.doneG (by kernel_rfl) ?_ _
            clear hcP HXD
            go_wp2_with fail
            have hkg := HKG.out
            go_roundg (gk - 1)
            case rel => exact ⟨k + 1, _, by go_num, by omega, by omega, HTOT.out, HST, HO6, HB6⟩
            case measure => omega
          | hash =>
            have hxn : 1 ≤ X.size := by have := ok_hashL HOKX.out; rwa [size_len] at this
            simp only [fldV]
            refine heldG.regionG (fun w' => w'.cell? ⟨g, o + k, none⟩ = some (.string X) ∧ Below w3.heap.size w3 w') (fun i => decide (11 ≤ i)) (by kernel_rfl) ?_
            have hS0 : wr.drew.cell? ⟨g, o + k, none⟩ = some (.string X) ∧ Below w3.heap.size w3 wr.drew := ⟨hcP, HB.out.drew⟩
            refine dshowC.isSetTake (i := 0) (d := 53) (v := u12) rfl rfl (by kernel_rfl) (by kernel_rfl) (by kernel_rfl) (fun _ _ _ h => h) (by kernel_rfl) rfl (Or.inl ⟨by kernel_rfl, ?_⟩) hS0 ?_
            · intro wz hSw
              obtain ⟨hcz, hBz⟩ := hSw
              go_simp
            try simp only [Act.put, List.setIfInBounds_toArray, List.set_cons_zero, List.set_cons_succ]
            refine dshowC.isSetTake (i := 1) (d := 54) (v := .iface 93 (.agg #[])) rfl rfl (by kernel_rfl) (by kernel_rfl) (by kernel_rfl) (fun _ _ _ h => h) (by kernel_rfl) rfl (Or.inl ⟨by kernel_rfl, ?_⟩) hS0 ?_
            · intro wz hSw
              obtain ⟨hcz, hBz⟩ := hSw
              go_simp
            try simp only [Act.put, List.setIfInBounds_toArray, List.set_cons_zero, List.set_cons_succ]
            refine dshowC.isSetTake (i := 2) (d := 55) (v := .slice (some ⟨g, o, none⟩) n c) rfl rfl (by kernel_rfl) (by kernel_rfl) (by kernel_rfl) (fun _ _ _ h => h) (by kernel_rfl) rfl (Or.inl ⟨by kernel_rfl, ?_⟩) hS0 ?_
            · intro wz hSw
              obtain ⟨hcz, hBz⟩ := hSw
              go_simp
            try simp only [Act.put, List.setIfInBounds_toArray, List.set_cons_zero, List.set_cons_succ]
            refine dshowC.isSetTake (i := 3) (d := 56) (v := .int .i64 (k : Int)) rfl rfl (by kernel_rfl) (by kernel_rfl) (by kernel_rfl) (fun _ _ _ h => h) (by kernel_rfl) rfl (Or.inl ⟨by kernel_rfl, ?_⟩) hS0 ?_
            · intro wz hSw
              obtain ⟨hcz, hBz⟩ := hSw
              go_simp
            try simp only [Act.put, List.setIfInBounds_toArray, List.set_cons_zero, List.set_cons_succ]
            refine dshowC.isSetTake (i := 4) (d := 57) (v := .pointer (some ⟨g, o + k, none⟩)) rfl rfl (by kernel_rfl) (by kernel_rfl) (by kernel_rfl) (fun _ _ _ h => h) (by kernel_rfl) rfl (Or.inl ⟨by kernel_rfl, ?_⟩) hS0 ?_
            · intro wz hSw
              obtain ⟨hcz, hBz⟩ := hSw
              go_simp; try (intro h0; exfalso; omega)
            try simp only [Act.put, List.setIfInBounds_toArray, List.set_cons_zero, List.set_cons_succ]
            refine dshowC.isSetTake (i := 5) (d := 58) (v := .string X) rfl rfl (by kernel_rfl) (by kernel_rfl) (by kernel_rfl) (fun _ _ _ h => h) (by kernel_rfl) rfl (Or.inl ⟨by kernel_rfl, ?_⟩) hS0 ?_
            · intro wz hSw
              obtain ⟨hcz, hBz⟩ := hSw
              go_simp
            try simp only [Act.put, List.setIfInBounds_toArray, List.set_cons_zero, List.set_cons_succ]
            refine dshowC.isSetTake (i := 6) (d := 59) (v := (.func (.method "gazetteer/data.show") #[.iface 93 (.agg #[])] #[])) rfl rfl (by kernel_rfl) (by kernel_rfl) (by kernel_rfl) (fun _ _ _ h => h) (by kernel_rfl) rfl (Or.inl ⟨by kernel_rfl, ?_⟩) hS0 ?_
            · intro wz hSw
              obtain ⟨hcz, hBz⟩ := hSw
              go_simp
            try simp only [Act.put, List.setIfInBounds_toArray, List.set_cons_zero, List.set_cons_succ]
            refine dshowC.isSetTake (i := 7) (d := 60) (v := (.func (.method "gazetteer/data.show") #[.iface 93 (.agg #[])] #[])) rfl rfl (by kernel_rfl) (by kernel_rfl) (by kernel_rfl) (fun _ _ _ h => h) (by kernel_rfl) rfl (Or.inl ⟨by kernel_rfl, ?_⟩) hS0 ?_
            · intro wz hSw
              obtain ⟨hcz, hBz⟩ := hSw
              go_simp; first | done | kernel_rfl
            try simp only [Act.put, List.setIfInBounds_toArray, List.set_cons_zero, List.set_cons_succ]
            refine dshowC.isSetTake (i := 8) (d := 61) (v := .iface 93 (.agg #[])) rfl rfl (by kernel_rfl) (by kernel_rfl) (by kernel_rfl) (fun _ _ _ h => h) (by kernel_rfl) rfl (Or.inl ⟨by kernel_rfl, ?_⟩) hS0 ?_
            · intro wz hSw
              obtain ⟨hcz, hBz⟩ := hSw
              go_simp
            try simp only [Act.put, List.setIfInBounds_toArray, List.set_cons_zero, List.set_cons_succ]
            refine heldG.readyG (rs := [9]) (by kernel_rfl) (by simp) ?_
            refine heldG.AllG.cons rfl (fun KK hKK => ?_) heldG.AllG.nil
            go_simp
            refine (hash_show X _ hXs hxn).mono ?_
            rintro e w5 ⟨hB5, u, rfl, hlv⟩
            have hB5w := HB.out.drew.trans (hB5.mono (by have := HB.out.size; simpa using this))
            have hS1 : w5.cell? ⟨g, o + k, none⟩ = some (.string X) ∧ Below w3.heap.size w3 w5 := ⟨(hB5.cell (p := ⟨g, o + k, none⟩) (by simpa using hgw)).trans hcP, hB5w⟩
            have HO5 := Lib.hid (own_below (w := wr.drew) (own_drew HOWN.out) hB5)
            dsimp only
            refine hKK.out _ _ (fun _ => hS1) ?_; clear hKK KK
            try simp only [Act.put, List.setIfInBounds_toArray, List.set_cons_zero, List.set_cons_succ]
            refine heldG.readyG (rs := [10]) (by kernel_rfl) (by simp) ?_
            refine heldG.AllG.cons rfl (fun KK hKK => ?_) heldG.AllG.nil
            refine step_append_lv (by rfl) (.tmp 53) (.tmp 62) (by rfl) w3.heap.size u12 P (by simp [Act.eval]) HO5.out _ _ u (by simp [Act.eval]) hlv HLEN.out hB5w.size ?_
            intro v' w6 hown6 hgrow
            rw [HXD.out] at hown6
            have HO6 := Lib.hid hown6
            have HB6 := Lib.hid (hB5w.grown hgrow hB5w.size (fun k hk => (HO5.out.lt k hk).1))
            clear hown6 hgrow
            refine hKK.out _ _ (fun _ => ⟨(HB6.out.cell (p := ⟨g, o + k, none⟩) hg).trans HC3.out, HB6.out⟩) ?_; clear hKK KK
            try simp only [Act.put, List.setIfInBounds_toArray]
            refine heldG.readyG (rs := [11]) (by kernel_rfl) (by simp) ?_
            refine heldG.AllG.cons rfl (fun KK hKK => ?_) heldG.AllG.nil
            go_simp
            refine hKK.out _ _ (fun h => absurd h (by decide)) ?_; clear hKK KK
            try simp only [Act.put, List.setIfInBounds_toArray, List.set_cons_zero, List.set_cons_succ]
            refine heldG.doneG (by kernel_rfl) ?_ _
            clear hcP HXD
            go_wp2_with fail
            have hkg := HKG.out
            go_roundg (gk - 1)
            case rel => exact ⟨k + 1, _, by go_num, by omega, by omega, HTOT.out, HST, HO6, HB6⟩
            case measure => omega
        · have hke : k = n := by omega
          have HE : Hid (P = wordsL fs p) := Lib.hid (by
            have h := HW.out
            rw [List.drop_eq_nil_iff.2 (show fs.length ≤ k by have := HNN.out; omega)] at h
            simpa [wordsL] using h)
          have hsz := HB.out.size
          have CJ := Lib.hid (fun wx (h : wx = wr) => join_any P u12 w3.heap.size wx (by rw [h]; exact LV.of_own HOWN.out) (by omega))
          rw [HE.out, ← HN.out] at CJ
          go_wp2_with fail
          refine (CJ.out _ rfl).mono ?_
          rintro e w5 ⟨rfl, hB5⟩
          have HB5 := Lib.hid (HBW.out.trans ((HB.out.trans (hB5.mono hsz)).mono HBW.out.size))
          clear hB5
          go_wp2_with fail
          go_ret2
          exact ⟨rfl, HB5.out⟩
  · have HN : Hid (R = []) := Lib.hid (by rw [← HR.out, showDS, if_neg (by rw [hC]; exact hc0)])
    have hb : (C != 0) = true := by rw [bne_iff_ne]; exact hc0
    clear hC hc0
    go_enter Tryz.func8, Tryz.ntmps8
    go_wp2_with fail
    refine (CC.out _).mono ?_
    rintro e w1 ⟨rfl, hB1⟩
    go_wp2_with fail
    go_ret2
    exact ⟨by rw [HN.out]; rfl, hB1⟩
end Go.Proofs.YtkcpbjoolfojjaaGreatDoor.dshowT
