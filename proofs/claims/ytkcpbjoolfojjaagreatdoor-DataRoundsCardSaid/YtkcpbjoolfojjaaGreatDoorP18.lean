/- data's readers: salt, hash, kind, host: walks. -/
import Derived.Test.YtkcpbjoolfojjaaGreatDoorP16
import Derived.Test.YtkcpbjoolfojjaaGreatDoorP17
import Derived.Lib.LaidTab
namespace Go.Proofs.YtkcpbjoolfojjaaGreatDoor.wdF
open Go.RowKit Go.Proofs.YtkcpbjoolfojjaaGreatDoor.kit Go.Proofs.YtkcpbjoolfojjaaGreatDoor.nspec Go.Proofs.YtkcpbjoolfojjaaGreatDoor.fld Go.Proofs.YtkcpbjoolfojjaaGreatDoor.bits Go.Proofs.YtkcpbjoolfojjaaGreatDoor.bld Go.Proofs.YtkcpbjoolfojjaaGreatDoor.rdP Go.Proofs.YtkcpbjoolfojjaaGreatDoor.rdQ Go.Proofs.YtkcpbjoolfojjaaGreatDoor.wd Go.Proofs.YtkcpbjoolfojjaaGreatDoor.wdA Go.Proofs.YtkcpbjoolfojjaaGreatDoor.wdB Go.Proofs.YtkcpbjoolfojjaaGreatDoor.wdC Go.Proofs.YtkcpbjoolfojjaaGreatDoor.wdD Go.Proofs.YtkcpbjoolfojjaaGreatDoor.wdL Go.Proofs.YtkcpbjoolfojjaaGreatDoor.wdE
set_option linter.unusedVariables false

/-- the tables that are asked for -/
structure TabS (w : World) : Prop where
  utf : Lib.Utf8Tabs 1 2 w
  pow : Lib.TabIs Tryz.prog w "internal/strconv.uint64pow10" .u64 Lib.pow10Tab
  mx : ∃ m, w.cell? ⟨3, 0, none⟩ = some (.int .i64 m)
theorem TabS.below {w w' : World} (h : TabS w) (hB : Below w.heap.size w w') : TabS w' := by
  obtain ⟨m, hm⟩ := h.mx
  exact ⟨typeofD.utf_below h.utf hB, typeofD.pow_below h.pow hB, m, (hB.cell (p := ⟨3, 0, none⟩) (World.block_lt_of_cell? w _ hm)).trans hm⟩
/-- they lie below block C -/
def TabW (C : Nat) (w : World) : Prop := ∃ w0, w0.heap.size ≤ C ∧ TabS w0 ∧ Below w0.heap.size w0 w
theorem TabW.tab {C : Nat} {w : World} (h : TabW C w) : TabS w := by
  obtain ⟨w0, _, h1, h2⟩ := h
  exact h1.below h2
theorem TabW.eff {C : Nat} {w w' : World} (h : TabW C w) (he : EffW C w w') : TabW C w' := by
  obtain ⟨w0, h0, h1, h2⟩ := h
  exact ⟨w0, h0, h1, ⟨he.os.trans h2.os, he.tape.trans h2.tape, he.output.trans h2.output, Nat.le_trans h2.size he.size, fun k hk => (he.kept k (Nat.lt_of_lt_of_le hk h2.size) (by omega)).trans (h2.block k hk)⟩⟩
theorem TabW.below {C : Nat} {w w' : World} (h : TabW C w) (hB : Below w.heap.size w w') : TabW C w' := h.eff (EffW.of_below hB)
theorem two2_is (o : Option Bs) : back.two o = two2 o := rfl
section
variable (C : Nat) (a : Option Addr) (L : List Wo) (cap : Nat) (O : ByteArray) (k : Nat) (w : World) (h : AtW w C a L cap O k)
include h
set_option maxRecDepth 100000 in
set_option maxHeartbeats 1600000 in
theorem hash_read : Calls Tryz.prog 207 #[.agg #[], .pointer (some ⟨C, 0, none⟩)] w (Post C a L cap O w (fieldR O.data.toList L k .hash)) := by
  have CP := Lib.hid (fun wx hx => plain_any C a L cap O k wx hx)
  have H := Lib.hid (fun o => at_alloc h o)
  have HORG := Lib.hid h.org
  unfold PostP at CP
  unfold Post fieldR oneW
  cases hk : L[k]? with
  | none =>
    rw [hk] at CP
    clear hk h
    go_enter Tryz.func207, Tryz.ntmps207
    go_wp2_with fail
    refine (CP.out _ (H.out _)).mono ?_
    rintro e w1 ⟨he, rfl⟩
    unfold faultE
    go_wp2_with fail
    exact ⟨rfl, eff_alloc _ _ _ he, rfl⟩
  | some x =>
    rw [hk] at CP
    have hxs := h.sm x (List.mem_of_getElem? hk)
    obtain ⟨s, q⟩ := x
    simp only at CP hxs ⊢
    have CB := Lib.hid (fun c w => bad_is C a L cap O k c w)
    clear hk h
    cases q with
    | true =>
      go_enter Tryz.func207, Tryz.ntmps207
      go_wp2_with fail
      refine (CP.out _ (H.out _)).mono ?_
      rintro e w1 ⟨he, rfl⟩
      unfold faultE
      go_wp2_with fail
      exact ⟨rfl, eff_alloc _ _ _ he, rfl⟩
    | false =>
      simp only [Bool.false_eq_true, if_false] at CP ⊢
      have CU := Lib.hid (fun w => from32.nfrom32_any s w (by omega))
      simp only [two2_is] at CU
      cases ho : back.from32S s.data.toList with
      | none =>
        rw [ho] at CU
        have HN : Hid (hashR s.data.toList = none) := Lib.hid (by unfold hashR; rw [ho]; rfl)
        rw [HN.out]
        clear ho
        unfold two2 at CU
        go_enter Tryz.func207, Tryz.ntmps207
        go_wp2_with fail
        refine (CP.out _ (H.out _)).mono ?_
        rintro e w1 ⟨he, rfl, hA⟩
        have HE := Lib.hid (eff_alloc _ _ _ he)
        have HA := Lib.hid hA
        clear he hA
        go_wp2_with fail
        refine (CU.out _).mono ?_
        rintro e w2 ⟨rfl, hB2⟩
        have HE2 := Lib.hid (HE.out.trans (EffW.of_below hB2))
        have HA2 := Lib.hid (HA.out.below hB2)
        clear hB2
        go_wp2_with fail
        refine (CB.out _ _ HA2.out).mono ?_
        rintro e w3 ⟨rfl, rfl⟩
        unfold faultE
        go_wp2_with fail
        exact ⟨rfl, HE2.out, rfl⟩
      | some d =>
        rw [ho] at CU
        unfold two2 at CU
        have HO := Lib.hid ho
        obtain ⟨D, hD⟩ : ∃ D : ByteArray, (⟨d.toArray⟩ : ByteArray) = D := ⟨_, rfl⟩
        have hDd : D.data.toList = d := by rw [← hD]
        have HDL := Lib.hid (show D.size = d.length by rw [← hD, mk_size])
        simp only [hD] at CU
        by_cases hd : d = []
        · have hem : D.toList.isEmpty = true := by rw [empty_b, hDd]; exact decide_eq_true hd
          have HN : Hid (hashR s.data.toList = none) := Lib.hid (by unfold hashR; rw [ho]; unfold someR; simp only; rw [if_pos hd]; rfl)
          rw [HN.out]
          clear hd hDd hD ho
          go_enter Tryz.func207, Tryz.ntmps207
          go_wp2_with fail
          refine (CP.out _ (H.out _)).mono ?_
          rintro e w1 ⟨he, rfl, hA⟩
          have HE := Lib.hid (eff_alloc _ _ _ he)
          have HA := Lib.hid hA
          clear he hA
          go_wp2_with fail
          refine (CU.out _).mono ?_
          rintro e w2 ⟨rfl, hB2⟩
          have HE2 := Lib.hid (HE.out.trans (EffW.of_below hB2))
          have HA2 := Lib.hid (HA.out.below hB2)
          clear hB2
          go_wp2_with fail
          refine (CB.out _ _ HA2.out).mono ?_
          rintro e w3 ⟨rfl, rfl⟩
          unfold faultE
          go_wp2_with fail
          exact ⟨rfl, HE2.out, rfl⟩
        · have hem : D.toList.isEmpty = false := by rw [empty_b, hDd]; exact decide_eq_false hd
          by_cases hbig : 255 < d.length
          · have hDi : 255 < (D.size : Int) := by rw [HDL.out]; omega
            have HN : Hid (hashR s.data.toList = none) := Lib.hid (by unfold hashR; rw [ho]; unfold someR lenR; simp only; rw [if_neg hd]; simp only; rw [if_pos hbig])
            rw [HN.out]
            clear hd hDd hD hbig ho
            go_enter Tryz.func207, Tryz.ntmps207
            go_wp2_with fail
            refine (CP.out _ (H.out _)).mono ?_
            rintro e w1 ⟨he, rfl, hA⟩
            have HE := Lib.hid (eff_alloc _ _ _ he)
            have HA := Lib.hid hA
            clear he hA
            go_wp2_with fail
            refine (CU.out _).mono ?_
            rintro e w2 ⟨rfl, hB2⟩
            have HE2 := Lib.hid (HE.out.trans (EffW.of_below hB2))
            have HA2 := Lib.hid (HA.out.below hB2)
            clear hB2
            go_wp2_with fail
            refine (CB.out _ _ HA2.out).mono ?_
            rintro e w3 ⟨rfl, rfl⟩
            unfold faultE
            go_wp2_with fail
            exact ⟨rfl, HE2.out, rfl⟩
          · have hDi : (D.size : Int) ≤ 255 := by rw [HDL.out]; omega
            have HN : Hid (hashR s.data.toList = some (UInt8.ofNat d.length :: d)) := Lib.hid (by unfold hashR; rw [ho]; unfold someR lenR; simp only; rw [if_neg hd]; simp only; rw [if_neg hbig])
            rw [HN.out]
            have HV : Hid (((⟨(big.bigS D.size 1).toArray⟩ : ByteArray) ++ D) = ⟨(UInt8.ofNat d.length :: d).toArray⟩) := Lib.hid (by rw [HDL.out, big_one (by omega), ← hD, app_mk]; rfl)
            have CG := Lib.hid (fun (w : World) => big_any D.size 1 w (by omega) (by omega))
            obtain ⟨Z, hZ⟩ : ∃ Z : ByteArray, (⟨(big.bigS D.size 1).toArray⟩ : ByteArray) = Z := ⟨_, rfl⟩
            have hZs : Z.size ≤ 1 := by rw [← hZ, mk_size, big.bigS_len]; omega
            rw [hZ] at HV CG
            clear hd hDd hD hbig hZ ho
            go_enter Tryz.func207, Tryz.ntmps207
            go_wp2_with fail
            refine (CP.out _ (H.out _)).mono ?_
            rintro e w1 ⟨he, rfl, hA⟩
            have HE := Lib.hid (eff_alloc _ _ _ he)
            have HA := Lib.hid hA
            clear he hA
            go_wp2_with fail
            refine (CU.out _).mono ?_
            rintro e w2 ⟨rfl, hB2⟩
            have HE2 := Lib.hid (HE.out.trans (EffW.of_below hB2))
            have HA2 := Lib.hid (HA.out.below hB2)
            clear hB2
            go_wp2_with fail
            refine (CG.out _).mono ?_
            rintro e w3 ⟨rfl, hB3⟩
            have HA3 := Lib.hid (HA2.out.below hB3)
            have HE3 := Lib.hid (HE2.out.trans (EffW.of_below hB3))
            clear hB3
            go_wp2_with fail
            go_ret
            exact ⟨HE3.out, by rw [← HV.out]; rfl, HA3.out⟩
set_option maxRecDepth 100000 in
set_option maxHeartbeats 1600000 in
theorem salt_read : Calls Tryz.prog 204 #[.agg #[], .pointer (some ⟨C, 0, none⟩)] w (Post C a L cap O w (fieldR O.data.toList L k .salt)) := by
  have CP := Lib.hid (fun wx hx => plain_any C a L cap O k wx hx)
  have H := Lib.hid (fun o => at_alloc h o)
  have HORG := Lib.hid h.org
  unfold PostP at CP
  unfold Post fieldR oneW
  cases hk : L[k]? with
  | none =>
    rw [hk] at CP
    clear hk h
    go_enter Tryz.func204, Tryz.ntmps204
    go_wp2_with fail
    refine (CP.out _ (H.out _)).mono ?_
    rintro e w1 ⟨he, rfl⟩
    unfold faultE
    go_wp2_with fail
    exact ⟨rfl, eff_alloc _ _ _ he, rfl⟩
  | some x =>
    rw [hk] at CP
    have hxs := h.sm x (List.mem_of_getElem? hk)
    obtain ⟨s, q⟩ := x
    simp only at CP hxs ⊢
    have CB := Lib.hid (fun c w => bad_is C a L cap O k c w)
    clear hk h
    cases q with
    | true =>
      go_enter Tryz.func204, Tryz.ntmps204
      go_wp2_with fail
      refine (CP.out _ (H.out _)).mono ?_
      rintro e w1 ⟨he, rfl⟩
      unfold faultE
      go_wp2_with fail
      exact ⟨rfl, eff_alloc _ _ _ he, rfl⟩
    | false =>
      simp only [Bool.false_eq_true, if_false] at CP ⊢
      by_cases hm : s.data.toList = [45]
      · have hq : (s.toList == [45]) = true := by rw [Lib.toList_data, hm]; rfl
        have HN : Hid (saltR s.data.toList = some [0]) := Lib.hid (by unfold saltR; rw [if_pos hm])
        rw [HN.out]
        clear hm
        go_enter Tryz.func204, Tryz.ntmps204
        go_wp2_with fail
        refine (CP.out _ (H.out _)).mono ?_
        rintro e w1 ⟨he, rfl, hA⟩
        have HE := Lib.hid (eff_alloc _ _ _ he)
        have HA := Lib.hid hA
        clear he hA
        go_wp2_with fail
        go_ret
        exact ⟨HE.out, rfl, HA.out⟩
      · have hq : (s.toList == [45]) = false := by rw [Lib.toList_data]; simpa using hm
        have HM := Lib.hid hm
        have CU := Lib.hid (fun w => unhex_any s w (by omega))
        clear hm
        cases ho : rdP.unhexS s.data.toList with
        | none =>
          rw [ho] at CU
          have HN : Hid (saltR s.data.toList = none) := Lib.hid (by unfold saltR; rw [if_neg HM.out]; rw [ho]; rfl)
          rw [HN.out]
          clear ho
          unfold two2 at CU
          go_enter Tryz.func204, Tryz.ntmps204
          go_wp2_with fail
          refine (CP.out _ (H.out _)).mono ?_
          rintro e w1 ⟨he, rfl, hA⟩
          have HE := Lib.hid (eff_alloc _ _ _ he)
          have HA := Lib.hid hA
          clear he hA
          go_wp2_with fail
          refine (CU.out _).mono ?_
          rintro e w2 ⟨rfl, hB2⟩
          have HE2 := Lib.hid (HE.out.trans (EffW.of_below hB2))
          have HA2 := Lib.hid (HA.out.below hB2)
          clear hB2
          go_wp2_with fail
          refine (CB.out _ _ HA2.out).mono ?_
          rintro e w3 ⟨rfl, rfl⟩
          unfold faultE
          go_wp2_with fail
          exact ⟨rfl, HE2.out, rfl⟩
        | some d =>
          rw [ho] at CU
          unfold two2 at CU
          have HO := Lib.hid ho
          obtain ⟨D, hD⟩ : ∃ D : ByteArray, (⟨d.toArray⟩ : ByteArray) = D := ⟨_, rfl⟩
          have hDd : D.data.toList = d := by rw [← hD]
          have HDL := Lib.hid (show D.size = d.length by rw [← hD, mk_size])
          simp only [hD] at CU
          by_cases hd : d = []
          · have hem : D.toList.isEmpty = true := by rw [empty_b, hDd]; exact decide_eq_true hd
            have HN : Hid (saltR s.data.toList = none) := Lib.hid (by unfold saltR; rw [if_neg HM.out]; rw [ho]; unfold someR; simp only; rw [if_pos hd]; rfl)
            rw [HN.out]
            clear hd hDd hD ho
            go_enter Tryz.func204, Tryz.ntmps204
            go_wp2_with fail
            refine (CP.out _ (H.out _)).mono ?_
            rintro e w1 ⟨he, rfl, hA⟩
            have HE := Lib.hid (eff_alloc _ _ _ he)
            have HA := Lib.hid hA
            clear he hA
            go_wp2_with fail
            refine (CU.out _).mono ?_
            rintro e w2 ⟨rfl, hB2⟩
            have HE2 := Lib.hid (HE.out.trans (EffW.of_below hB2))
            have HA2 := Lib.hid (HA.out.below hB2)
            clear hB2
            go_wp2_with fail
            refine (CB.out _ _ HA2.out).mono ?_
            rintro e w3 ⟨rfl, rfl⟩
            unfold faultE
            go_wp2_with fail
            exact ⟨rfl, HE2.out, rfl⟩
          · have hem : D.toList.isEmpty = false := by rw [empty_b, hDd]; exact decide_eq_false hd
            by_cases hbig : 255 < d.length
            · have hDi : 255 < (D.size : Int) := by rw [HDL.out]; omega
              have HN : Hid (saltR s.data.toList = none) := Lib.hid (by unfold saltR; rw [if_neg HM.out]; rw [ho]; unfold someR lenR; simp only; rw [if_neg hd]; simp only; rw [if_pos hbig])
              rw [HN.out]
              clear hd hDd hD hbig ho
              go_enter Tryz.func204, Tryz.ntmps204
              go_wp2_with fail
              refine (CP.out _ (H.out _)).mono ?_
              rintro e w1 ⟨he, rfl, hA⟩
              have HE := Lib.hid (eff_alloc _ _ _ he)
              have HA := Lib.hid hA
              clear he hA
              go_wp2_with fail
              refine (CU.out _).mono ?_
              rintro e w2 ⟨rfl, hB2⟩
              have HE2 := Lib.hid (HE.out.trans (EffW.of_below hB2))
              have HA2 := Lib.hid (HA.out.below hB2)
              clear hB2
              go_wp2_with fail
              refine (CB.out _ _ HA2.out).mono ?_
              rintro e w3 ⟨rfl, rfl⟩
              unfold faultE
              go_wp2_with fail
              exact ⟨rfl, HE2.out, rfl⟩
            · have hDi : (D.size : Int) ≤ 255 := by rw [HDL.out]; omega
              have HN : Hid (saltR s.data.toList = some (UInt8.ofNat d.length :: d)) := Lib.hid (by unfold saltR; rw [if_neg HM.out]; rw [ho]; unfold someR lenR; simp only; rw [if_neg hd]; simp only; rw [if_neg hbig])
              rw [HN.out]
              have HV : Hid (((⟨(big.bigS D.size 1).toArray⟩ : ByteArray) ++ D) = ⟨(UInt8.ofNat d.length :: d).toArray⟩) := Lib.hid (by rw [HDL.out, big_one (by omega), ← hD, app_mk]; rfl)
              have CG := Lib.hid (fun (w : World) => big_any D.size 1 w (by omega) (by omega))
              obtain ⟨Z, hZ⟩ : ∃ Z : ByteArray, (⟨(big.bigS D.size 1).toArray⟩ : ByteArray) = Z := ⟨_, rfl⟩
              have hZs : Z.size ≤ 1 := by rw [← hZ, mk_size, big.bigS_len]; omega
              rw [hZ] at HV CG
              clear hd hDd hD hbig hZ ho
              go_enter Tryz.func204, Tryz.ntmps204
              go_wp2_with fail
              refine (CP.out _ (H.out _)).mono ?_
              rintro e w1 ⟨he, rfl, hA⟩
              have HE := Lib.hid (eff_alloc _ _ _ he)
              have HA := Lib.hid hA
              clear he hA
              go_wp2_with fail
              refine (CU.out _).mono ?_
              rintro e w2 ⟨rfl, hB2⟩
              have HE2 := Lib.hid (HE.out.trans (EffW.of_below hB2))
              have HA2 := Lib.hid (HA.out.below hB2)
              clear hB2
              go_wp2_with fail
              refine (CG.out _).mono ?_
              rintro e w3 ⟨rfl, hB3⟩
              have HA3 := Lib.hid (HA2.out.below hB3)
              have HE3 := Lib.hid (HE2.out.trans (EffW.of_below hB3))
              clear hB3
              go_wp2_with fail
              go_ret
              exact ⟨HE3.out, by rw [← HV.out]; rfl, HA3.out⟩
omit h in
theorem typeof_le (s : Bs) : 0 ≤ typeofP.typeOfD s ∧ typeofP.typeOfD s ≤ 65535 := by
  rw [typeofP.typeof_same]
  unfold typeofR.typeOfS
  have hr : 0 ≤ typeofR.restS (low.lowL s) ∧ typeofR.restS (low.lowL s) ≤ 65535 := by
    unfold typeofR.restS
    split
    · omega
    · split
      · omega
      · have := count_le ((low.lowL s).drop 4) 5 65535 (by omega)
        omega
  cases hh : typeofR.hitS (low.lowL s) with
  | none => exact hr
  | some t =>
    unfold typeofR.hitS at hh
    obtain ⟨p, hp, rfl⟩ := Option.map_eq_some_iff.1 hh
    have := typeofR.mnem_all p (List.mem_of_find?_eq_some hp)
    show 0 ≤ p.1 ∧ p.1 ≤ 65535
    omega
set_option maxRecDepth 100000 in
set_option maxHeartbeats 1600000 in
theorem kind_read (ht : TabW C w) : Calls Tryz.prog 170 #[.agg #[], .pointer (some ⟨C, 0, none⟩)] w (Post C a L cap O w (fieldR O.data.toList L k .kind)) := by
  have CP := Lib.hid (fun wx hx => plain_any C a L cap O k wx hx)
  have H := Lib.hid (fun o => at_alloc h o)
  have HORG := Lib.hid h.org
  unfold PostP at CP
  unfold Post fieldR oneW
  cases hk : L[k]? with
  | none =>
    rw [hk] at CP
    clear hk h
    go_enter Tryz.func170, Tryz.ntmps170
    go_wp2_with fail
    refine (CP.out _ (H.out _)).mono ?_
    rintro e w1 ⟨he, rfl⟩
    unfold faultE
    go_wp2_with fail
    exact ⟨rfl, eff_alloc _ _ _ he, rfl⟩
  | some x =>
    rw [hk] at CP
    have hxs := h.sm x (List.mem_of_getElem? hk)
    obtain ⟨s, q⟩ := x
    simp only at CP hxs ⊢
    have CB := Lib.hid (fun c w => bad_is C a L cap O k c w)
    clear hk h
    cases q with
    | true =>
      go_enter Tryz.func170, Tryz.ntmps170
      go_wp2_with fail
      refine (CP.out _ (H.out _)).mono ?_
      rintro e w1 ⟨he, rfl⟩
      unfold faultE
      go_wp2_with fail
      exact ⟨rfl, eff_alloc _ _ _ he, rfl⟩
    | false =>
      simp only [Bool.false_eq_true, if_false] at CP ⊢
      have CT := Lib.hid (fun w (h : TabS w) => typeofD.typeof_any s w hxs h.utf h.pow)
      have HT := Lib.hid ht
      obtain ⟨V, hV⟩ : ∃ V, typeofP.typeOfD s.data.toList = V := ⟨_, rfl⟩
      rw [hV] at CT
      have HV := Lib.hid hV
      have hV0 : 0 ≤ V ∧ V ≤ 65535 := by rw [← hV]; exact typeof_le _
      obtain ⟨hV0, hV1⟩ := hV0
      clear hV ht
      by_cases h0 : V = 0
      · subst h0
        have HN : Hid (kindR s.data.toList = none) := Lib.hid (by unfold kindR; rw [HV.out]; rfl)
        rw [HN.out]
        go_enter Tryz.func170, Tryz.ntmps170
        go_wp2_with fail
        refine (CP.out _ (H.out _)).mono ?_
        rintro e w1 ⟨he, rfl, hA⟩
        have HE := Lib.hid (eff_alloc _ _ _ he)
        have HA := Lib.hid hA
        clear he hA
        have HT1 := Lib.hid (HT.out.eff HE.out)
        go_wp2_with fail
        refine (CT.out _ HT1.out.tab).mono ?_
        rintro e w2 ⟨rfl, hB2⟩
        have HE2 := Lib.hid (HE.out.trans (EffW.of_below hB2))
        have HA2 := Lib.hid (HA.out.below hB2)
        clear hB2
        go_wp2_with fail
        refine (CB.out _ _ HA2.out).mono ?_
        rintro e w3 ⟨rfl, rfl⟩
        unfold faultE
        go_wp2_with fail
        exact ⟨rfl, HE2.out, rfl⟩
      · obtain ⟨u, rfl⟩ : ∃ u : Nat, V = (u : Int) := ⟨V.toNat, by omega⟩
        have HN : Hid (kindR s.data.toList = some (big.bigS u 2)) := Lib.hid (by unfold kindR; rw [HV.out, if_neg h0, Int.toNat_natCast])
        rw [HN.out]
        have hb : ((u : Int) == 0) = false := by rw [beq_eq_false_iff_ne]; exact h0
        have CG := Lib.hid (fun (w : World) => big_any u 2 w (by omega) (by omega))
        clear h0
        go_enter Tryz.func170, Tryz.ntmps170
        go_wp2_with fail
        refine (CP.out _ (H.out _)).mono ?_
        rintro e w1 ⟨he, rfl, hA⟩
        have HE := Lib.hid (eff_alloc _ _ _ he)
        have HA := Lib.hid hA
        clear he hA
        have HT1 := Lib.hid (HT.out.eff HE.out)
        go_wp2_with fail
        refine (CT.out _ HT1.out.tab).mono ?_
        rintro e w2 ⟨rfl, hB2⟩
        have HE2 := Lib.hid (HE.out.trans (EffW.of_below hB2))
        have HA2 := Lib.hid (HA.out.below hB2)
        clear hB2
        go_wp2_with fail
        refine (CG.out _).mono ?_
        rintro e w3 ⟨rfl, hB3⟩
        have HA3 := Lib.hid (HA2.out.below hB3)
        have HE3 := Lib.hid (HE2.out.trans (EffW.of_below hB3))
        clear hB3
        go_wp2_with fail
        go_ret
        exact ⟨HE3.out, rfl, HA3.out⟩
end
end Go.Proofs.YtkcpbjoolfojjaaGreatDoor.wdF
