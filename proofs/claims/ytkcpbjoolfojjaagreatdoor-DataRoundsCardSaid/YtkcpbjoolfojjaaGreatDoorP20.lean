/- data's reader of names; words.generic: walks. data.ip4's reader, data.groups: walks. data.groups: walk. -/
import Derived.Test.YtkcpbjoolfojjaaGreatDoorP19
import Derived.Test.YtkcpbjoolfojjaaGreatDoorShelf
namespace Go.Proofs.YtkcpbjoolfojjaaGreatDoor.wdH
open Go.RowKit Go.Proofs.YtkcpbjoolfojjaaGreatDoor.kit Go.Proofs.YtkcpbjoolfojjaaGreatDoor.nspec Go.Proofs.YtkcpbjoolfojjaaGreatDoor.fld Go.Proofs.YtkcpbjoolfojjaaGreatDoor.bits Go.Proofs.YtkcpbjoolfojjaaGreatDoor.bld Go.Proofs.YtkcpbjoolfojjaaGreatDoor.rdP Go.Proofs.YtkcpbjoolfojjaaGreatDoor.rdQ Go.Proofs.YtkcpbjoolfojjaaGreatDoor.wd Go.Proofs.YtkcpbjoolfojjaaGreatDoor.wdA Go.Proofs.YtkcpbjoolfojjaaGreatDoor.wdB Go.Proofs.YtkcpbjoolfojjaaGreatDoor.wdC Go.Proofs.YtkcpbjoolfojjaaGreatDoor.wdD Go.Proofs.YtkcpbjoolfojjaaGreatDoor.wdL Go.Proofs.YtkcpbjoolfojjaaGreatDoor.wdE Go.Proofs.YtkcpbjoolfojjaaGreatDoor.wdF Go.Proofs.YtkcpbjoolfojjaaGreatDoor.wdG
set_option linter.unusedVariables false

section
variable (C : Nat) (a : Option Addr) (L : List Wo) (cap : Nat) (O : ByteArray) (k : Nat) (w : World) (h : AtW w C a L cap O k)
include h
set_option maxRecDepth 100000 in
set_option maxHeartbeats 1600000 in
theorem host_read : Calls Tryz.prog 140 #[.agg #[], .pointer (some ⟨C, 0, none⟩)] w (Post C a L cap O w (fieldR O.data.toList L k .host)) := by
  have h1 := at_alloc h (boxO 84)
  have HE0 := Lib.hid (EffW.alloc C w (boxO 84))
  obtain ⟨W1, hW1⟩ : ∃ W1, w.alloc (boxO 84) = W1 := ⟨_, rfl⟩
  rw [hW1] at h1 HE0
  have HW1 := Lib.hid hW1
  have HAD := Lib.hid (at_drew h1)
  have hS0 : W1.drew.cell? ⟨C, 2, none⟩ = some (.string O) := HAD.out.c2
  have CP := Lib.hid (plain_any C a L cap O k W1.drew HAD.out)
  have HORG := Lib.hid h.org
  unfold PostP at CP
  have HER := Lib.hid (HE0.out.trans ((EffW.refl C W1).drew))
  cases hk : L[k]? with
  | none =>
    rw [hk] at CP
    have hR : fieldR O.data.toList L k .host = .error (L.length, 2) := by show hostW O.data.toList L k = _; unfold hostW; rw [hk]
    rw [hR]
    clear hk h h1 hR hW1
    go_enter Tryz.func140, Tryz.ntmps140
    go_upto_region 1 with fail
    change Code.wp _ _ _ _ (w.alloc (boxO _))
    rw [HW1.out]
    refine heldG.regionG (fun w' => w'.cell? ⟨C, 2, none⟩ = some (.string O)) (fun _ => false) (by kernel_rfl) ?_
    refine wdD.takeD (i := 0) (d := 9) (v := .pointer (some ⟨C, 0, none⟩)) rfl rfl (by kernel_rfl) (by kernel_rfl) (by kernel_rfl) (fun _ _ _ h => h) (by kernel_rfl) rfl (Or.inl ⟨by kernel_rfl, ?_⟩) hS0 ?_
    · intro wz hSw
      go_simp
    try simp only [Act.put, List.setIfInBounds_toArray, List.set_cons_zero, List.set_cons_succ]
    refine wdD.takeD (i := 2) (d := 11) (v := .pointer (some ⟨C, 0, none⟩)) rfl rfl (by kernel_rfl) (by kernel_rfl) (by kernel_rfl) (fun _ _ _ h => h) (by kernel_rfl) rfl (Or.inl ⟨by kernel_rfl, ?_⟩) hS0 ?_
    · intro wz hSw
      go_simp
    try simp only [Act.put, List.setIfInBounds_toArray, List.set_cons_zero, List.set_cons_succ]
    refine wdD.takeD (i := 3) (d := 12) (v := .pointer (some ⟨C, 0, none⟩)) rfl rfl (by kernel_rfl) (by kernel_rfl) (by kernel_rfl) (fun _ _ _ h => h) (by kernel_rfl) rfl (Or.inl ⟨by kernel_rfl, ?_⟩) hS0 ?_
    · intro wz hSw
      go_simp
    try simp only [Act.put, List.setIfInBounds_toArray, List.set_cons_zero, List.set_cons_succ]
    refine wdD.takeD (i := 4) (d := 13) (v := .pointer (some ⟨C, 2, none⟩)) rfl rfl (by kernel_rfl) (by kernel_rfl) (by kernel_rfl) (fun _ _ _ h => h) (by kernel_rfl) rfl (Or.inl ⟨by kernel_rfl, ?_⟩) hS0 ?_
    · intro wz hSw
      go_simp
    try simp only [Act.put, List.setIfInBounds_toArray, List.set_cons_zero, List.set_cons_succ]
    refine wdD.takeD (i := 5) (d := 14) (v := .string O) rfl rfl (by kernel_rfl) (by kernel_rfl) (by kernel_rfl) (fun _ _ _ h => h) (by kernel_rfl) rfl (Or.inl ⟨by kernel_rfl, ?_⟩) hS0 ?_
    · intro wz hSw
      replace hSw : wz.cell? ⟨C, 2, none⟩ = some (.string O) := hSw; go_simp
    try simp only [Act.put, List.setIfInBounds_toArray, List.set_cons_zero, List.set_cons_succ]
    refine heldG.readyG (rs := [1]) (by kernel_rfl) (by simp) ?_
    refine heldG.AllG.cons rfl (fun KK hKK => ?_) heldG.AllG.nil
    go_simp
    refine CP.out.mono ?_
    rintro e w1 ⟨he, rfl⟩
    unfold faultE
    exact ⟨rfl, post_err (x := ((L.length : Int), 2)) (HER.out.trans he)⟩
  | some x =>
    rw [hk] at CP
    have hxs := h.sm x (List.mem_of_getElem? hk)
    obtain ⟨s, q⟩ := x
    simp only at CP hxs
    have CB := Lib.hid (fun c w => bad_is C a L cap O k c w)
    cases q with
    | true =>
      have hR : fieldR O.data.toList L k .host = .error (k, 2) := by show hostW O.data.toList L k = _; unfold hostW; rw [hk]; rfl
      rw [hR]
      clear hk h h1 hR hW1
      go_enter Tryz.func140, Tryz.ntmps140
      go_upto_region 1 with fail
      change Code.wp _ _ _ _ (w.alloc (boxO _))
      rw [HW1.out]
      refine heldG.regionG (fun w' => w'.cell? ⟨C, 2, none⟩ = some (.string O)) (fun _ => false) (by kernel_rfl) ?_
      refine wdD.takeD (i := 0) (d := 9) (v := .pointer (some ⟨C, 0, none⟩)) rfl rfl (by kernel_rfl) (by kernel_rfl) (by kernel_rfl) (fun _ _ _ h => h) (by kernel_rfl) rfl (Or.inl ⟨by kernel_rfl, ?_⟩) hS0 ?_
      · intro wz hSw
        go_simp
      try simp only [Act.put, List.setIfInBounds_toArray, List.set_cons_zero, List.set_cons_succ]
      refine wdD.takeD (i := 2) (d := 11) (v := .pointer (some ⟨C, 0, none⟩)) rfl rfl (by kernel_rfl) (by kernel_rfl) (by kernel_rfl) (fun _ _ _ h => h) (by kernel_rfl) rfl (Or.inl ⟨by kernel_rfl, ?_⟩) hS0 ?_
      · intro wz hSw
        go_simp
      try simp only [Act.put, List.setIfInBounds_toArray, List.set_cons_zero, List.set_cons_succ]
      refine wdD.takeD (i := 3) (d := 12) (v := .pointer (some ⟨C, 0, none⟩)) rfl rfl (by kernel_rfl) (by kernel_rfl) (by kernel_rfl) (fun _ _ _ h => h) (by kernel_rfl) rfl (Or.inl ⟨by kernel_rfl, ?_⟩) hS0 ?_
      · intro wz hSw
        go_simp
      try simp only [Act.put, List.setIfInBounds_toArray, List.set_cons_zero, List.set_cons_succ]
      refine wdD.takeD (i := 4) (d := 13) (v := .pointer (some ⟨C, 2, none⟩)) rfl rfl (by kernel_rfl) (by kernel_rfl) (by kernel_rfl) (fun _ _ _ h => h) (by kernel_rfl) rfl (Or.inl ⟨by kernel_rfl, ?_⟩) hS0 ?_
      · intro wz hSw
        go_simp
      try simp only [Act.put, List.setIfInBounds_toArray, List.set_cons_zero, List.set_cons_succ]
      refine wdD.takeD (i := 5) (d := 14) (v := .string O) rfl rfl (by kernel_rfl) (by kernel_rfl) (by kernel_rfl) (fun _ _ _ h => h) (by kernel_rfl) rfl (Or.inl ⟨by kernel_rfl, ?_⟩) hS0 ?_
      · intro wz hSw
        replace hSw : wz.cell? ⟨C, 2, none⟩ = some (.string O) := hSw; go_simp
      try simp only [Act.put, List.setIfInBounds_toArray, List.set_cons_zero, List.set_cons_succ]
      refine heldG.readyG (rs := [1]) (by kernel_rfl) (by simp) ?_
      refine heldG.AllG.cons rfl (fun KK hKK => ?_) heldG.AllG.nil
      go_simp
      refine CP.out.mono ?_
      rintro e w1 ⟨he, rfl⟩
      unfold faultE
      exact ⟨rfl, post_err (x := ((k : Int), 2)) (HER.out.trans he)⟩
    | false =>
      simp only [Bool.false_eq_true, if_false] at CP
      have CN := Lib.hid (fun w => nread.nread_any s O w (by omega) (by have := HORG.out; omega))
      obtain ⟨R, hRd⟩ : ∃ R, readS.readS s.data.toList O.data.toList = R := ⟨_, rfl⟩
      have hR0 : fieldR O.data.toList L k .host = if R.2.2 = 0 then .ok (R.1, k + 1) else .error (k, R.2.2) := by
        show hostW O.data.toList L k = _; unfold hostW; rw [hk]; simp only [Bool.false_eq_true, if_false, hRd]
      rw [hRd] at CN
      obtain ⟨d, at', c⟩ := R
      unfold readS.Ret3 at CN
      simp only at CN hR0
      obtain ⟨D, hD⟩ : ∃ D : ByteArray, (⟨d.toArray⟩ : ByteArray) = D := ⟨_, rfl⟩
      rw [hD] at CN
      have HD := Lib.hid hD
      by_cases h0 : c = 0
      · subst h0
        have hR : fieldR O.data.toList L k .host = .ok (d, k + 1) := by rw [hR0, if_pos rfl]
        rw [hR]
        clear hk h h1 hR hR0 hW1 hRd hD
        go_enter Tryz.func140, Tryz.ntmps140
        go_upto_region 1 with fail
        change Code.wp _ _ _ _ (w.alloc (boxO _))
        rw [HW1.out]
        refine heldG.regionG (fun w' => w'.cell? ⟨C, 2, none⟩ = some (.string O)) (fun _ => false) (by kernel_rfl) ?_
        refine wdD.takeD (i := 0) (d := 9) (v := .pointer (some ⟨C, 0, none⟩)) rfl rfl (by kernel_rfl) (by kernel_rfl) (by kernel_rfl) (fun _ _ _ h => h) (by kernel_rfl) rfl (Or.inl ⟨by kernel_rfl, ?_⟩) hS0 ?_
        · intro wz hSw
          go_simp
        try simp only [Act.put, List.setIfInBounds_toArray, List.set_cons_zero, List.set_cons_succ]
        refine wdD.takeD (i := 2) (d := 11) (v := .pointer (some ⟨C, 0, none⟩)) rfl rfl (by kernel_rfl) (by kernel_rfl) (by kernel_rfl) (fun _ _ _ h => h) (by kernel_rfl) rfl (Or.inl ⟨by kernel_rfl, ?_⟩) hS0 ?_
        · intro wz hSw
          go_simp
        try simp only [Act.put, List.setIfInBounds_toArray, List.set_cons_zero, List.set_cons_succ]
        refine wdD.takeD (i := 3) (d := 12) (v := .pointer (some ⟨C, 0, none⟩)) rfl rfl (by kernel_rfl) (by kernel_rfl) (by kernel_rfl) (fun _ _ _ h => h) (by kernel_rfl) rfl (Or.inl ⟨by kernel_rfl, ?_⟩) hS0 ?_
        · intro wz hSw
          go_simp
        try simp only [Act.put, List.setIfInBounds_toArray, List.set_cons_zero, List.set_cons_succ]
        refine wdD.takeD (i := 4) (d := 13) (v := .pointer (some ⟨C, 2, none⟩)) rfl rfl (by kernel_rfl) (by kernel_rfl) (by kernel_rfl) (fun _ _ _ h => h) (by kernel_rfl) rfl (Or.inl ⟨by kernel_rfl, ?_⟩) hS0 ?_
        · intro wz hSw
          go_simp
        try simp only [Act.put, List.setIfInBounds_toArray, List.set_cons_zero, List.set_cons_succ]
        refine wdD.takeD (i := 5) (d := 14) (v := .string O) rfl rfl (by kernel_rfl) (by kernel_rfl) (by kernel_rfl) (fun _ _ _ h => h) (by kernel_rfl) rfl (Or.inl ⟨by kernel_rfl, ?_⟩) hS0 ?_
        · intro wz hSw
          replace hSw : wz.cell? ⟨C, 2, none⟩ = some (.string O) := hSw; go_simp
        try simp only [Act.put, List.setIfInBounds_toArray, List.set_cons_zero, List.set_cons_succ]
        refine heldG.readyG (rs := [1]) (by kernel_rfl) (by simp) ?_
        refine heldG.AllG.cons rfl (fun KK hKK => ?_) heldG.AllG.nil
        go_simp
        refine CP.out.mono ?_
        rintro e w1 ⟨he, rfl, hA⟩
        have HE := Lib.hid (HER.out.trans he)
        have HA := Lib.hid hA
        have hS1 : w1.cell? ⟨C, 2, none⟩ = some (.string O) := hA.c2
        clear he hA
        dsimp only
        refine hKK.out _ _ (fun _ => hS1) ?_
        clear hKK KK
        try simp only [Act.put, List.setIfInBounds_toArray, List.set_cons_zero, List.set_cons_succ]
        refine heldG.readyG (rs := [6]) (by kernel_rfl) (by simp) ?_
        refine heldG.AllG.cons rfl (fun KK hKK => ?_) heldG.AllG.nil
        go_simp
        refine (CN.out _).mono ?_
        rintro e w2 ⟨rfl, hB2⟩
        have HE2 := Lib.hid (HE.out.trans (EffW.of_below hB2))
        have HA2 := Lib.hid (HA.out.below hB2)
        have hS2 : w2.cell? ⟨C, 2, none⟩ = some (.string O) := HA2.out.c2
        clear hB2
        dsimp only
        refine hKK.out _ _ (fun _ => hS2) ?_
        clear hKK KK
        try simp only [Act.put, List.setIfInBounds_toArray, List.set_cons_zero, List.set_cons_succ]
        refine wdD.takeD (i := 7) (d := 8) (v := .tuple #[.string D, .int .i64 at', .int .i64 0]) rfl rfl (by kernel_rfl) (by kernel_rfl) (by kernel_rfl) (fun _ _ _ h => h) (by kernel_rfl) rfl (Or.inl ⟨by kernel_rfl, ?_⟩) hS2 ?_
        · intro wz hSw
          go_simp
        try simp only [Act.put, List.setIfInBounds_toArray, List.set_cons_zero, List.set_cons_succ]
        refine wdD.takeD (i := 8) (d := 16) (v := .string D) rfl rfl (by kernel_rfl) (by kernel_rfl) (by kernel_rfl) (fun _ _ _ h => h) (by kernel_rfl) rfl (Or.inl ⟨by kernel_rfl, ?_⟩) hS2 ?_
        · intro wz hSw
          go_simp
        try simp only [Act.put, List.setIfInBounds_toArray, List.set_cons_zero, List.set_cons_succ]
        refine wdD.takeD (i := 9) (d := 17) (v := .int .i64 at') rfl rfl (by kernel_rfl) (by kernel_rfl) (by kernel_rfl) (fun _ _ _ h => h) (by kernel_rfl) rfl (Or.inl ⟨by kernel_rfl, ?_⟩) hS2 ?_
        · intro wz hSw
          go_simp
        try simp only [Act.put, List.setIfInBounds_toArray, List.set_cons_zero, List.set_cons_succ]
        refine wdD.takeD (i := 10) (d := 18) (v := .int .i64 0) rfl rfl (by kernel_rfl) (by kernel_rfl) (by kernel_rfl) (fun _ _ _ h => h) (by kernel_rfl) rfl (Or.inl ⟨by kernel_rfl, ?_⟩) hS2 ?_
        · intro wz hSw
          go_simp
        try simp only [Act.put, List.setIfInBounds_toArray, List.set_cons_zero, List.set_cons_succ]
        refine wdD.takeD (i := 11) (d := 5) (v := .string D) rfl rfl (by kernel_rfl) (by kernel_rfl) (by kernel_rfl) (fun _ _ _ h => h) (by kernel_rfl) rfl (Or.inl ⟨by kernel_rfl, ?_⟩) hS2 ?_
        · intro wz hSw
          go_simp
        try simp only [Act.put, List.setIfInBounds_toArray, List.set_cons_zero, List.set_cons_succ]
        refine wdD.takeD (i := 12) (d := 6) (v := .int .i64 at') rfl rfl (by kernel_rfl) (by kernel_rfl) (by kernel_rfl) (fun _ _ _ h => h) (by kernel_rfl) rfl (Or.inl ⟨by kernel_rfl, ?_⟩) hS2 ?_
        · intro wz hSw
          go_simp
        try simp only [Act.put, List.setIfInBounds_toArray, List.set_cons_zero, List.set_cons_succ]
        refine wdD.takeD (i := 13) (d := 7) (v := .int .i64 0) rfl rfl (by kernel_rfl) (by kernel_rfl) (by kernel_rfl) (fun _ _ _ h => h) (by kernel_rfl) rfl (Or.inl ⟨by kernel_rfl, ?_⟩) hS2 ?_
        · intro wz hSw
          go_simp
        try simp only [Act.put, List.setIfInBounds_toArray, List.set_cons_zero, List.set_cons_succ]
        refine heldG.doneG (by kernel_rfl) ?_ _
        go_wp2_with fail
        go_ret
        exact (by rw [← HD.out] at *; exact post_ok HE2.out HA2.out)
      · have hR : fieldR O.data.toList L k .host = .error (k, c) := by rw [hR0, if_neg h0]
        rw [hR]
        have hb : (c != 0) = true := by rw [bne_iff_ne]; exact h0
        have hb2 : (c == 0) = false := by rw [beq_eq_false_iff_ne]; exact h0
        clear hk h h1 hR hR0 hW1 hRd hD h0
        go_enter Tryz.func140, Tryz.ntmps140
        go_upto_region 1 with fail
        change Code.wp _ _ _ _ (w.alloc (boxO _))
        rw [HW1.out]
        refine heldG.regionG (fun w' => w'.cell? ⟨C, 2, none⟩ = some (.string O)) (fun _ => false) (by kernel_rfl) ?_
        refine wdD.takeD (i := 0) (d := 9) (v := .pointer (some ⟨C, 0, none⟩)) rfl rfl (by kernel_rfl) (by kernel_rfl) (by kernel_rfl) (fun _ _ _ h => h) (by kernel_rfl) rfl (Or.inl ⟨by kernel_rfl, ?_⟩) hS0 ?_
        · intro wz hSw
          go_simp
        try simp only [Act.put, List.setIfInBounds_toArray, List.set_cons_zero, List.set_cons_succ]
        refine wdD.takeD (i := 2) (d := 11) (v := .pointer (some ⟨C, 0, none⟩)) rfl rfl (by kernel_rfl) (by kernel_rfl) (by kernel_rfl) (fun _ _ _ h => h) (by kernel_rfl) rfl (Or.inl ⟨by kernel_rfl, ?_⟩) hS0 ?_
        · intro wz hSw
          go_simp
        try simp only [Act.put, List.setIfInBounds_toArray, List.set_cons_zero, List.set_cons_succ]
        refine wdD.takeD (i := 3) (d := 12) (v := .pointer (some ⟨C, 0, none⟩)) rfl rfl (by kernel_rfl) (by kernel_rfl) (by kernel_rfl) (fun _ _ _ h => h) (by kernel_rfl) rfl (Or.inl ⟨by kernel_rfl, ?_⟩) hS0 ?_
        · intro wz hSw
          go_simp
        try simp only [Act.put, List.setIfInBounds_toArray, List.set_cons_zero, List.set_cons_succ]
        refine wdD.takeD (i := 4) (d := 13) (v := .pointer (some ⟨C, 2, none⟩)) rfl rfl (by kernel_rfl) (by kernel_rfl) (by kernel_rfl) (fun _ _ _ h => h) (by kernel_rfl) rfl (Or.inl ⟨by kernel_rfl, ?_⟩) hS0 ?_
        · intro wz hSw
          go_simp
        try simp only [Act.put, List.setIfInBounds_toArray, List.set_cons_zero, List.set_cons_succ]
        refine wdD.takeD (i := 5) (d := 14) (v := .string O) rfl rfl (by kernel_rfl) (by kernel_rfl) (by kernel_rfl) (fun _ _ _ h => h) (by kernel_rfl) rfl (Or.inl ⟨by kernel_rfl, ?_⟩) hS0 ?_
        · intro wz hSw
          replace hSw : wz.cell? ⟨C, 2, none⟩ = some (.string O) := hSw; go_simp
        try simp only [Act.put, List.setIfInBounds_toArray, List.set_cons_zero, List.set_cons_succ]
        refine heldG.readyG (rs := [1]) (by kernel_rfl) (by simp) ?_
        refine heldG.AllG.cons rfl (fun KK hKK => ?_) heldG.AllG.nil
        go_simp
        refine CP.out.mono ?_
        rintro e w1 ⟨he, rfl, hA⟩
        have HE := Lib.hid (HER.out.trans he)
        have HA := Lib.hid hA
        have hS1 : w1.cell? ⟨C, 2, none⟩ = some (.string O) := hA.c2
        clear he hA
        dsimp only
        refine hKK.out _ _ (fun _ => hS1) ?_
        clear hKK KK
        try simp only [Act.put, List.setIfInBounds_toArray, List.set_cons_zero, List.set_cons_succ]
        refine heldG.readyG (rs := [6]) (by kernel_rfl) (by simp) ?_
        refine heldG.AllG.cons rfl (fun KK hKK => ?_) heldG.AllG.nil
        go_simp
        refine (CN.out _).mono ?_
        rintro e w2 ⟨rfl, hB2⟩
        have HE2 := Lib.hid (HE.out.trans (EffW.of_below hB2))
        have HA2 := Lib.hid (HA.out.below hB2)
        have hS2 : w2.cell? ⟨C, 2, none⟩ = some (.string O) := HA2.out.c2
        clear hB2
        dsimp only
        refine hKK.out _ _ (fun _ => hS2) ?_
        clear hKK KK
        try simp only [Act.put, List.setIfInBounds_toArray, List.set_cons_zero, List.set_cons_succ]
        refine wdD.takeD (i := 7) (d := 8) (v := .tuple #[.string D, .int .i64 at', .int .i64 c]) rfl rfl (by kernel_rfl) (by kernel_rfl) (by kernel_rfl) (fun _ _ _ h => h) (by kernel_rfl) rfl (Or.inl ⟨by kernel_rfl, ?_⟩) hS2 ?_
        · intro wz hSw
          go_simp
        try simp only [Act.put, List.setIfInBounds_toArray, List.set_cons_zero, List.set_cons_succ]
        refine wdD.takeD (i := 8) (d := 16) (v := .string D) rfl rfl (by kernel_rfl) (by kernel_rfl) (by kernel_rfl) (fun _ _ _ h => h) (by kernel_rfl) rfl (Or.inl ⟨by kernel_rfl, ?_⟩) hS2 ?_
        · intro wz hSw
          go_simp
        try simp only [Act.put, List.setIfInBounds_toArray, List.set_cons_zero, List.set_cons_succ]
        refine wdD.takeD (i := 9) (d := 17) (v := .int .i64 at') rfl rfl (by kernel_rfl) (by kernel_rfl) (by kernel_rfl) (fun _ _ _ h => h) (by kernel_rfl) rfl (Or.inl ⟨by kernel_rfl, ?_⟩) hS2 ?_
        · intro wz hSw
          go_simp
        try simp only [Act.put, List.setIfInBounds_toArray, List.set_cons_zero, List.set_cons_succ]
        refine wdD.takeD (i := 10) (d := 18) (v := .int .i64 c) rfl rfl (by kernel_rfl) (by kernel_rfl) (by kernel_rfl) (fun _ _ _ h => h) (by kernel_rfl) rfl (Or.inl ⟨by kernel_rfl, ?_⟩) hS2 ?_
        · intro wz hSw
          go_simp
        try simp only [Act.put, List.setIfInBounds_toArray, List.set_cons_zero, List.set_cons_succ]
        refine wdD.takeD (i := 11) (d := 5) (v := .string D) rfl rfl (by kernel_rfl) (by kernel_rfl) (by kernel_rfl) (fun _ _ _ h => h) (by kernel_rfl) rfl (Or.inl ⟨by kernel_rfl, ?_⟩) hS2 ?_
        · intro wz hSw
          go_simp
        try simp only [Act.put, List.setIfInBounds_toArray, List.set_cons_zero, List.set_cons_succ]
        refine wdD.takeD (i := 12) (d := 6) (v := .int .i64 at') rfl rfl (by kernel_rfl) (by kernel_rfl) (by kernel_rfl) (fun _ _ _ h => h) (by kernel_rfl) rfl (Or.inl ⟨by kernel_rfl, ?_⟩) hS2 ?_
        · intro wz hSw
          go_simp
        try simp only [Act.put, List.setIfInBounds_toArray, List.set_cons_zero, List.set_cons_succ]
        refine wdD.takeD (i := 13) (d := 7) (v := .int .i64 c) rfl rfl (by kernel_rfl) (by kernel_rfl) (by kernel_rfl) (fun _ _ _ h => h) (by kernel_rfl) rfl (Or.inl ⟨by kernel_rfl, ?_⟩) hS2 ?_
        · intro wz hSw
          go_simp
        try simp only [Act.put, List.setIfInBounds_toArray, List.set_cons_zero, List.set_cons_succ]
        refine heldG.doneG (by kernel_rfl) ?_ _
        go_wp2_with fail
        refine (CB.out _ _ HA2.out).mono ?_
        rintro e w3 ⟨rfl, rfl⟩
        unfold faultE
        go_wp2_with fail
        exact ⟨rfl, post_err (x := ((k : Int), c)) HE2.out⟩
end
/-- what generic leaves -/
def PostG (C : Nat) (a : Option Addr) (L : List Wo) (cap : Nat) (O : ByteArray) (w : World) (r : Got Bs) (e : Ending) (w' : World) : Prop :=
  EffW C w w' ∧ match r with
  | .error x => e = faultE x.1 x.2
  | .ok d => e = .returned (.string ⟨d.toArray⟩)
theorem postG_err {C : Nat} {a : Option Addr} {L : List Wo} {cap : Nat} {O : ByteArray} {w w' : World} {x : Int × Int} (he : EffW C w w') : PostG C a L cap O w (.error x) (faultE x.1 x.2) w' := ⟨he, rfl⟩
theorem postG_ok {C : Nat} {a : Option Addr} {L : List Wo} {cap : Nat} {O : ByteArray} {w w' : World} {d : Bs} (he : EffW C w w') : PostG C a L cap O w (.ok d) (.returned (.string ⟨d.toArray⟩)) w' := ⟨he, rfl⟩
set_option maxRecDepth 100000 in
set_option maxHeartbeats 1600000 in
theorem generic_any (C : Nat) (a : Option Addr) (L : List Wo) (cap : Nat) (O : ByteArray) (k : Nat) (w : World) (h : AtW w C a L cap O k) (hL : 1 ≤ L.length) :
    Calls Tryz.prog 17 #[.pointer (some ⟨C, 0, none⟩)] w (PostG C a L cap O w (genericR L)) := by
  have hm := h.move 1 hL
  have k1 := h.c1; have z1 := h.z 1; have hltC := h.lt
  rw [show (((1 : Nat) : Int)) = 1 from rfl] at hm
  obtain ⟨w1, hw1⟩ : ∃ w1, w.setCell ⟨C, 1, none⟩ (.int .i64 1) = w1 := ⟨_, rfl⟩
  rw [hw1] at hm
  have HW1 := Lib.hid hw1
  have HA1 := Lib.hid hm.1; have HE1 := Lib.hid hm.2
  have CP := Lib.hid (plain_any C a L cap O 1 w1 hm.1)
  unfold PostP at CP
  have hfew := h.few
  cases hk : L[1]? with
  | none =>
    rw [hk] at CP
    have hR : genericR L = .error (L.length, 2) := by unfold genericR; rw [hk]
    rw [hR]
    clear hk h hm hw1 hR
    go_enter Tryz.func17, Tryz.ntmps17
    go_upto_region 2 with fail
    rw [HW1.out]
    go_wp2_with fail
    refine CP.out.mono ?_
    rintro e w2 ⟨he, rfl⟩
    unfold faultE
    go_wp2_with fail
    exact ⟨rfl, postG_err (x := ((L.length : Int), 2)) (HE1.out.trans he)⟩
  | some x =>
    rw [hk] at CP
    have hxs := h.sm x (List.mem_of_getElem? hk)
    obtain ⟨s, q⟩ := x
    simp only at CP hxs
    have CB := Lib.hid (fun w => bad_is C a L cap O 1 2 w)
    cases q with
    | true =>
      have hR : genericR L = .error (1, 2) := by unfold genericR; rw [hk]; rfl
      rw [hR]
      clear hk h hm hw1 hR
      go_enter Tryz.func17, Tryz.ntmps17
      go_upto_region 2 with fail
      rw [HW1.out]
      go_wp2_with fail
      refine CP.out.mono ?_
      rintro e w2 ⟨he, rfl⟩
      unfold faultE
      go_wp2_with fail
      exact ⟨rfl, postG_err (x := (1, 2)) (HE1.out.trans he)⟩
    | false =>
      simp only [Bool.false_eq_true, if_false] at CP
      have CC := Lib.hid (fun (w : World) => count_is s 5 65535 w (by unfold maxLen; omega) (by omega))
      obtain ⟨V, hV⟩ : ∃ V, cnt.countS s.data.toList 5 65535 = V := ⟨_, rfl⟩
      rw [hV] at CC
      have hVt : V ≤ 65535 := by rw [← hV]; exact count_le _ _ _ (by omega)
      by_cases hneg : V < 0
      · have hR : genericR L = .error (1, 2) := by unfold genericR; rw [hk]; simp only [Bool.false_eq_true, if_false, hV]; rw [if_pos hneg]
        rw [hR]
        clear hk h hm hw1 hR hV
        go_enter Tryz.func17, Tryz.ntmps17
        go_upto_region 2 with fail
        rw [HW1.out]
        go_wp2_with fail
        refine CP.out.mono ?_
        rintro e w2 ⟨he, rfl, hA⟩
        have HE2 := Lib.hid (HE1.out.trans he); have HA2 := Lib.hid hA
        clear he hA
        go_wp2_with fail
        refine (CC.out _).mono ?_
        rintro e w3 ⟨rfl, rfl⟩
        go_wp2_with fail
        refine (CB.out _ HA2.out).mono ?_
        rintro e w3 ⟨rfl, rfl⟩
        unfold faultE
        go_wp2_with fail
        exact ⟨rfl, postG_err (x := (1, 2)) HE2.out⟩
      · have CR := Lib.hid (fun wx hx => rest_any C a L cap O 2 wx hx)
        unfold PostR at CR
        have hrl := fun d hd => rest_len (L.drop 2) 2 d hd (fun x hx => h.sm x (List.mem_of_mem_drop hx))
        have hE : ∀ j, restW (L.drop 2) 2 = .error j → genericR L = .error (j, 2) := fun j e => by unfold genericR; rw [hk]; simp only [Bool.false_eq_true, if_false, hV, e]; rw [if_neg hneg]
        have hN : ∀ u, restW (L.drop 2) 2 = .ok u → unhexS u = none → genericR L = .error (2, 2) := fun u e e2 => by unfold genericR; rw [hk]; simp only [Bool.false_eq_true, if_false, hV, e, e2]; rw [if_neg hneg]
        have hS : ∀ u d, restW (L.drop 2) 2 = .ok u → unhexS u = some d → genericR L = if (d.length : Int) = V then .ok d else .error (2, 2) := fun u d e e2 => by unfold genericR; rw [hk]; simp only [Bool.false_eq_true, if_false, hV, e, e2]; rw [if_neg hneg]
        cases hr : restW (L.drop 2) 2 with
        | error j =>
          rw [hr] at CR
          have hR := hE j hr
          rw [hR]
          clear hk h hm hw1 hR hE hN hS hV hr hrl
          go_enter Tryz.func17, Tryz.ntmps17
          go_upto_region 2 with fail
          rw [HW1.out]
          go_wp2_with fail
          refine CP.out.mono ?_
          rintro e w2 ⟨he, rfl, hA⟩
          have HE2 := Lib.hid (HE1.out.trans he); have HA2 := Lib.hid hA
          clear he hA
          go_wp2_with fail
          refine (CC.out _).mono ?_
          rintro e w3 ⟨rfl, rfl⟩
          go_wp2_with fail
          refine (CR.out _ HA2.out).mono ?_
          rintro e w3 ⟨he, rfl⟩
          unfold faultE
          go_wp2_with fail
          exact ⟨rfl, postG_err (x := (j, 2)) (HE2.out.trans he)⟩
        | ok u =>
          rw [hr] at CR
          have hsl := hrl u hr
          rw [List.length_drop] at hsl
          have h3 : 1048576 * (L.length - 2) ≤ 1048576 * 1048576 := Nat.mul_le_mul_left _ (by omega)
          obtain ⟨U, hU⟩ : ∃ U : ByteArray, (⟨u.toArray⟩ : ByteArray) = U := ⟨_, rfl⟩
          have hUd : U.data.toList = u := by rw [← hU]
          have hUs : U.size ≤ 1099511627776 := by rw [← hU, mk_size]; omega
          simp only [hU] at CR
          have CU := Lib.hid (fun w => unhex_any U w hUs)
          rw [hUd] at CU
          cases hu : unhexS u with
          | none =>
            have hR0 := hN u hr hu
            rw [hu] at CU
            unfold two2 at CU
            rw [hR0]
            clear hk h hm hw1 hR0 hV hr hrl hsl h3 hU hUd hu hE hN hS
            go_enter Tryz.func17, Tryz.ntmps17
            go_upto_region 2 with fail
            rw [HW1.out]
            go_wp2_with fail
            refine CP.out.mono ?_
            rintro e w2 ⟨he, rfl, hA⟩
            have HE2 := Lib.hid (HE1.out.trans he); have HA2 := Lib.hid hA
            clear he hA
            go_wp2_with fail
            refine (CC.out _).mono ?_
            rintro e w3 ⟨rfl, rfl⟩
            go_wp2_with fail
            refine (CR.out _ HA2.out).mono ?_
            rintro e w3 ⟨he, rfl, hA⟩
            have HE3 := Lib.hid (HE2.out.trans he)
            clear he hA
            go_wp2_with fail
            refine (CU.out _).mono ?_
            rintro e w4 ⟨rfl, hB4⟩
            have HE4 := Lib.hid (HE3.out.trans (EffW.of_below hB4))
            clear hB4
            go_wp2_with fail
            exact ⟨rfl, postG_err (x := (2, 2)) HE4.out⟩
          | some d =>
            have hR0 := hS u d hr hu
            rw [hu] at CU
            unfold two2 at CU
            obtain ⟨D, hD⟩ : ∃ D : ByteArray, (⟨d.toArray⟩ : ByteArray) = D := ⟨_, rfl⟩
            have hDs : D.size = d.length := by rw [← hD, mk_size]
            rw [← hDs] at hR0
            simp only [hD] at CU
            have HD := Lib.hid hD
            by_cases hdv : (D.size : Int) = V
            · rw [if_pos hdv] at hR0
              rw [hR0]
              have hb : ((D.size : Int) == V) = true := by rw [beq_iff_eq]; exact hdv
              have hb2 : ((D.size : Int) != V) = false := by rw [bne, hb]; rfl
              clear hk h hm hw1 hR0 hV hr hrl hsl h3 hU hUd hu hD hDs hdv hE hN hS
              go_enter Tryz.func17, Tryz.ntmps17
              go_upto_region 2 with fail
              rw [HW1.out]
              go_wp2_with fail
              refine CP.out.mono ?_
              rintro e w2 ⟨he, rfl, hA⟩
              have HE2 := Lib.hid (HE1.out.trans he); have HA2 := Lib.hid hA
              clear he hA
              go_wp2_with fail
              refine (CC.out _).mono ?_
              rintro e w3 ⟨rfl, rfl⟩
              go_wp2_with fail
              refine (CR.out _ HA2.out).mono ?_
              rintro e w3 ⟨he, rfl, hA⟩
              have HE3 := Lib.hid (HE2.out.trans he)
              clear he hA
              go_wp2_with fail
              refine (CU.out _).mono ?_
              rintro e w4 ⟨rfl, hB4⟩
              have HE4 := Lib.hid (HE3.out.trans (EffW.of_below hB4))
              clear hB4
              go_wp2_with fail
              go_ret
              rw [← HD.out]
              exact postG_ok HE4.out
            · rw [if_neg hdv] at hR0
              rw [hR0]
              have hb : ((D.size : Int) == V) = false := by rw [beq_eq_false_iff_ne]; exact hdv
              have hb2 : ((D.size : Int) != V) = true := by rw [bne, hb]; rfl
              clear hk h hm hw1 hR0 hV hr hrl hsl h3 hU hUd hu hD hDs hdv hE hN hS
              go_enter Tryz.func17, Tryz.ntmps17
              go_upto_region 2 with fail
              rw [HW1.out]
              go_wp2_with fail
              refine CP.out.mono ?_
              rintro e w2 ⟨he, rfl, hA⟩
              have HE2 := Lib.hid (HE1.out.trans he); have HA2 := Lib.hid hA
              clear he hA
              go_wp2_with fail
              refine (CC.out _).mono ?_
              rintro e w3 ⟨rfl, rfl⟩
              go_wp2_with fail
              refine (CR.out _ HA2.out).mono ?_
              rintro e w3 ⟨he, rfl, hA⟩
              have HE3 := Lib.hid (HE2.out.trans he)
              clear he hA
              go_wp2_with fail
              refine (CU.out _).mono ?_
              rintro e w4 ⟨rfl, hB4⟩
              have HE4 := Lib.hid (HE3.out.trans (EffW.of_below hB4))
              clear hB4
              go_wp2_with fail
              exact ⟨rfl, postG_err (x := (2, 2)) HE4.out⟩
end Go.Proofs.YtkcpbjoolfojjaaGreatDoor.wdH
namespace Go.Proofs.YtkcpbjoolfojjaaGreatDoor.wdI
open Go.RowKit Go.Proofs.YtkcpbjoolfojjaaGreatDoor.kit Go.Proofs.YtkcpbjoolfojjaaGreatDoor.nspec Go.Proofs.YtkcpbjoolfojjaaGreatDoor.fld Go.Proofs.YtkcpbjoolfojjaaGreatDoor.bits Go.Proofs.YtkcpbjoolfojjaaGreatDoor.bld Go.Proofs.YtkcpbjoolfojjaaGreatDoor.coded Go.Proofs.YtkcpbjoolfojjaaGreatDoor.rdP Go.Proofs.YtkcpbjoolfojjaaGreatDoor.rdQ Go.Proofs.YtkcpbjoolfojjaaGreatDoor.wd Go.Proofs.YtkcpbjoolfojjaaGreatDoor.wdA Go.Proofs.YtkcpbjoolfojjaaGreatDoor.wdB Go.Proofs.YtkcpbjoolfojjaaGreatDoor.wdC Go.Proofs.YtkcpbjoolfojjaaGreatDoor.wdD Go.Proofs.YtkcpbjoolfojjaaGreatDoor.wdL Go.Proofs.YtkcpbjoolfojjaaGreatDoor.wdE Go.Proofs.YtkcpbjoolfojjaaGreatDoor.wdF Go.Proofs.YtkcpbjoolfojjaaGreatDoor.wdG
set_option linter.unusedVariables false

theorem split_size (sep : ByteArray) : ∀ (k : Nat) (s p : ByteArray), p ∈ Lib.splitB sep 0 k s → p.size ≤ s.size
  | 0, s, p, h => by
    rw [Lib.splitB_zero, List.mem_singleton] at h; subst h; exact Nat.le_refl _
  | k + 1, s, p, h => by
    rcases Lib.indexB_cases s sep with hm | ⟨i, hi, hr⟩
    · rw [Lib.splitB_miss _ _ _ _ hm, List.mem_singleton] at h; subst h; exact Nat.le_refl _
    · rw [Lib.splitB_hit _ _ _ _ i hi] at h
      rcases List.mem_cons.1 h with h | h
      · subst h; rw [ByteArray.size_extract]; omega
      · have := split_size sep k _ p h
        rw [ByteArray.size_extract] at this; omega
theorem splitW_size {c : UInt8} {s p : ByteArray} (h : p ∈ splitW c s) : p.size ≤ s.size := split_size _ _ _ _ h
theorem splitW_len (c : UInt8) (s : ByteArray) : (splitW c s).length = Lib.countB s ⟨#[c]⟩ + 1 := Lib.splitB_all ⟨#[c]⟩ (Nat.le_refl 1) 0 _ s rfl
theorem count_small (c : UInt8) (s : ByteArray) : Lib.countB s ⟨#[c]⟩ ≤ s.size := Lib.countB_le ⟨#[c]⟩ (Nat.le_refl 1) _ _ (Nat.le_refl _)
/-- the pieces, in a block of their own -/
abbrev piecesO (P : List ByteArray) : Obj := .cells (P.map Value.string).toArray 9
theorem split_is (c : UInt8) (s : ByteArray) (w : World) (ht : TabS w) (hs : s.size ≤ 1048576) :
    Calls Tryz.prog 73 #[.string s, .string ⟨#[c]⟩] w fun e w' => e = .returned (.slice (some ⟨w.heap.size, 0, none⟩) (splitW c s).length (splitW c s).length) ∧ w' = w.alloc (piecesO (splitW c s)) := by
  obtain ⟨m, hm⟩ := ht.mx
  rw [splitW_len]
  exact Tryz.strings_Split s ⟨#[c]⟩ m w (by omega) hm (by show 1 ≤ 1; omega)
theorem piece_at (P : List ByteArray) (w : World) {j : Nat} {p : ByteArray} (h : P[j]? = some p) : (w.alloc (piecesO P)).cell? ⟨w.heap.size, j, none⟩ = some (.string p) := by
  have hn := heap_alloc_new w (piecesO P)
  simp only [World.cell?, hn]
  have hl := (List.getElem?_eq_some_iff.1 h).1
  simp [h]
/-- numbers below 256, in turn -/
theorem oct_bad {P : List ByteArray} {j : Nat} {p : ByteArray} {A : Bs} {R : Option Bs} (h : (octL (P.drop j)).map (A ++ ·) = R) (hp : P[j]? = some p) (ho : octS p.data.toList = none) : R = none := by
  obtain ⟨hj, rfl⟩ := List.getElem?_eq_some_iff.1 hp
  rw [← h, List.drop_eq_getElem_cons hj, octL, ho]; rfl
theorem oct_go {P : List ByteArray} {j : Nat} {p : ByteArray} {A : Bs} {c : UInt8} {R : Option Bs} (h : (octL (P.drop j)).map (A ++ ·) = R) (hp : P[j]? = some p) (ho : octS p.data.toList = some c) : (octL (P.drop (j + 1))).map ((A ++ [c]) ++ ·) = R := by
  obtain ⟨hj, rfl⟩ := List.getElem?_eq_some_iff.1 hp
  rw [← h, List.drop_eq_getElem_cons hj, octL, ho]
  cases octL (P.drop (j + 1)) <;> simp
theorem oct_end {P : List ByteArray} {j : Nat} {A : Bs} {R : Option Bs} (h : (octL (P.drop j)).map (A ++ ·) = R) (hj : P.length ≤ j) : R = some A := by
  rw [← h, List.drop_eq_nil_of_le hj]; simp [octL]
theorem oneW_no {W : List Wo} {k : Nat} {x : Wo} {f : ByteArray → Option Bs} (h : W[k]? = some x) (hq : x.q = false) (hf : f x.s = none) : oneW W k f = .error (k, 2) := by unfold oneW; simp only [h, hq, hf, Bool.false_eq_true, if_false]
theorem oneW_yes {W : List Wo} {k : Nat} {x : Wo} {f : ByteArray → Option Bs} {d : Bs} (h : W[k]? = some x) (hq : x.q = false) (hf : f x.s = some d) : oneW W k f = .ok (d, k + 1) := by unfold oneW; simp only [h, hq, hf, Bool.false_eq_true, if_false]
section
variable (C : Nat) (a : Option Addr) (L : List Wo) (cap : Nat) (O : ByteArray) (k : Nat) (w : World) (h : AtW w C a L cap O k) (org : Bs)
include h
set_option maxRecDepth 100000 in
set_option maxHeartbeats 2400000 in
theorem ip4_read (ht : TabW C w) : Calls Tryz.prog 137 #[.agg #[], .pointer (some ⟨C, 0, none⟩)] w (Post C a L cap O w (fieldR org L k .ip4)) := by
  obtain ⟨i0, hi, hz0, hz1, hz2⟩ := info_parts infoByte
  have CP := Lib.hid (fun wx hx => plain_any C a L cap O k wx hx)
  unfold PostP at CP
  have h1 := at_alloc h (boxO 83)
  have HE0 := Lib.hid (EffW.alloc C w (boxO 83))
  have HT := Lib.hid (ht.eff HE0.out)
  obtain ⟨W1, hW1⟩ : ∃ W1, w.alloc (boxO 83) = W1 := ⟨_, rfl⟩
  rw [hW1] at h1 HE0 HT
  have HW1 := Lib.hid hW1
  have H1 := Lib.hid h1
  cases hk : L[k]? with
  | none =>
    rw [hk] at CP
    have hR : fieldR org L k .ip4 = .error (L.length, 2) := by show oneW L k ip4R = _; unfold oneW; rw [hk]
    rw [hR]
    clear hk h h1 hR hW1 ht
    go_enter Tryz.func137, Tryz.ntmps137
    go_upto_region 1 with fail
    change Code.wp _ _ _ _ (w.alloc (boxO _))
    rw [HW1.out]
    go_wp2_with fail
    refine (CP.out _ H1.out).mono ?_
    rintro e w2 ⟨he, rfl⟩
    unfold faultE
    go_wp2_with fail
    exact ⟨rfl, post_err (x := ((L.length : Int), 2)) (HE0.out.trans he)⟩
  | some x =>
    rw [hk] at CP
    have hxs := h.sm x (List.mem_of_getElem? hk)
    obtain ⟨s, q⟩ := x
    simp only at CP hxs
    have CB := Lib.hid (fun w => bad_is C a L cap O k 2 w)
    cases q with
    | true =>
      have hR : fieldR org L k .ip4 = .error (k, 2) := by show oneW L k ip4R = _; unfold oneW; rw [hk]; rfl
      rw [hR]
      clear hk h h1 hR hW1 ht
      go_enter Tryz.func137, Tryz.ntmps137
      go_upto_region 1 with fail
      change Code.wp _ _ _ _ (w.alloc (boxO _))
      rw [HW1.out]
      go_wp2_with fail
      refine (CP.out _ H1.out).mono ?_
      rintro e w2 ⟨he, rfl⟩
      unfold faultE
      go_wp2_with fail
      exact ⟨rfl, post_err (x := ((k : Int), 2)) (HE0.out.trans he)⟩
    | false =>
      simp only [Bool.false_eq_true, if_false] at CP
      have HNO := Lib.hid (fun (e : ip4R s = none) => show fieldR org L k .ip4 = .error (k, 2) from oneW_no hk rfl e)
      have HYES := Lib.hid (fun d (e : ip4R s = some d) => show fieldR org L k .ip4 = .ok (d, k + 1) from oneW_yes hk rfl e)
      have CS := Lib.hid (fun w ht => split_is 46 s w ht hxs)
      obtain ⟨PS, hPS⟩ : ∃ PS, splitW 46 s = PS := ⟨_, rfl⟩
      have HPZ : Hid (∀ p ∈ PS, p.size ≤ 1048576) := Lib.hid (fun p hp => Nat.le_trans (splitW_size (c := 46) (by rw [hPS]; exact hp)) hxs)
      have hPl : 1 ≤ PS.length ∧ PS.length ≤ 1048577 := by
        rw [← hPS, splitW_len]; have := count_small 46 s; omega
      rw [hPS] at CS
      obtain ⟨n, hn⟩ : ∃ n, PS.length = n := ⟨_, rfl⟩
      rw [hn] at CS hPl
      obtain ⟨hn1, hn2⟩ := hPl
      have HN := Lib.hid hn
      have HIP : Hid (ip4R s = if n = 4 then octL PS else none) := Lib.hid (by unfold ip4R; rw [hPS, hn])
      clear hk h h1 hW1 ht hPS hn hxs
      obtain ⟨PST, hPST⟩ : ∃ r, fieldR org L k .ip4 = r := ⟨_, rfl⟩
      rw [hPST] at HNO HYES
      rw [hPST]
      clear hPST
      go_enter Tryz.func137, Tryz.ntmps137
      go_upto_region 1 with fail
      change Code.wp _ _ _ _ (w.alloc (boxO _))
      rw [HW1.out]
      go_wp2_with fail
      refine (CP.out _ H1.out).mono ?_
      rintro e w2 ⟨he, rfl, hA⟩
      have HE2 := Lib.hid he; have HA2 := Lib.hid hA
      have HT2 := Lib.hid (HT.out.eff he)
      clear he hA
      go_wp2_with fail
      refine (CS.out _ HT2.out.tab).mono ?_
      rintro e w3 ⟨rfl, hw3⟩
      have hB3 : Below w2.heap.size w2 w3 := by rw [hw3]; exact (Below.refl _ _).alloc (Nat.le_refl _) _
      have HPC : Hid (∀ (j : Nat) p, PS[j]? = some p → w3.cell? ⟨w2.heap.size, j, none⟩ = some (.string p)) := Lib.hid (fun j p hp => by rw [hw3]; exact piece_at PS w2 hp)
      have hG3 : w2.heap.size < w3.heap.size := by rw [hw3, World.size_alloc]; omega
      obtain ⟨G, hG⟩ : ∃ G, w2.heap.size = G := ⟨_, rfl⟩
      rw [hG] at HPC hG3
      have HE3 := Lib.hid (HE2.out.trans (EffW.of_below hB3))
      have HA3 := Lib.hid (HA2.out.below hB3)
      have HT3 := Lib.hid (HT2.out.below hB3)
      have HG := Lib.hid hG
      clear hw3 hB3 hG
      rw [HG.out]
      go_wp2_with fail
      obtain ⟨R, HR⟩ : ∃ R, Hid ((octL (PS.drop 0)).map ([] ++ ·) = R) := ⟨_, Lib.hid rfl⟩
      have HR0 : Hid (octL PS = R) := Lib.hid (by
        rw [← HR.out, List.drop_zero]
        cases octL PS <;> simp)
      go_loopg [6, 8, 9, 15] (n + 1) (fun gas bv _ _ jv wr => ∃ (j : Nat) (A : Bs), jv = .int .i64 (j : Int) ∧ j ≤ n ∧ j + gas = n + 1 ∧ (n = 4 ∨ j = 0) ∧ A.length ≤ j ∧ Hid ((octL (PS.drop j)).map (A ++ ·) = R) ∧ Hid (wr.ownsRow w3.heap.size 5 1 bv A.length (Lib.byteCells A)) ∧ Hid (Below w3.heap.size w3 wr))
      case atStart => exact ⟨0, [], rfl, by omega, by omega, .inr rfl, by simp, HR, Lib.hid (World.ownsRow_nil _ _ _ _), Lib.hid (Below.refl _ _)⟩
      case round =>
        obtain ⟨j, A, rfl, hj, hjg, hn4, hAl, HW, HO, HB⟩ := hrel
        have HGK := Lib.hid hjg; clear hjg
        by_cases hlt : j < n
        · obtain ⟨p, hp⟩ : ∃ p, PS[j]? = some p := ⟨_, List.getElem?_eq_getElem (by rw [HN.out]; exact hlt)⟩
          have hps := HPZ.out p (List.mem_of_getElem? hp)
          have hcp := (HB.out.cell (p := ⟨G, j, none⟩) hG3).trans (HPC.out j p hp)
          have hj0 : (0 : Int) ≤ (j : Int) := by omega
          have hji : (j : Int) < (n : Int) := by omega
          have CC := Lib.hid (fun (w : World) => count_is p 3 255 w (by unfold maxLen; omega) (by omega))
          obtain ⟨V, hV⟩ : ∃ V, cnt.countS p.data.toList 3 255 = V := ⟨_, rfl⟩
          rw [hV] at CC
          have hVt : V ≤ 255 := by rw [← hV]; exact count_le _ _ _ (by omega)
          have HAw := Lib.hid (HA3.out.below HB.out)
          have HEw := Lib.hid (HE3.out.trans (EffW.of_below HB.out))
          have HTw := Lib.hid (HT3.out.below HB.out)
          by_cases hneg : V < 0
          · have hno : ip4R s = none := by
              rw [HIP.out]
              split
              · rw [HR0.out]; exact oct_bad HW.out hp (by unfold octS; rw [hV, if_pos hneg])
              · rfl
            have hPST := HNO.out hno
            subst hPST
            clear hp hV hno
            go_wp2_with (go_at_call 37; refine (CC.out _).mono ?_; rintro e w5 ⟨rfl, rfl⟩)
            refine (CB.out _ HAw.out).mono ?_
            rintro e w5 ⟨rfl, rfl⟩
            unfold faultE
            go_wp2_with fail
            exact ⟨rfl, post_err (x := ((k : Int), 2)) (HE0.out.trans HEw.out)⟩
          · obtain ⟨u, rfl⟩ : ∃ u : Nat, V = (u : Int) := ⟨V.toNat, by omega⟩
            have hu0 : ¬ (u : Int) < 0 := hneg
            by_cases hn44 : n = 4
            · have hb4 : ((n : Int) == 4) = true := by rw [beq_iff_eq]; omega
              have hb4n : ((n : Int) != 4) = false := by rw [bne, hb4]; rfl
              have hdg : Lib.itoa ((u : Nat) : Int) = Lib.decDigits u := by rw [tname.itoa_nat (by omega), Int.toNat_natCast]
              have CD := Lib.hid (fun w ht => tname.digits_any (u : Int) (by omega) (by omega) w ht)
              rw [hdg] at CD
              obtain ⟨D, hD⟩ : ∃ D : ByteArray, (⟨(Lib.decDigits u).toArray⟩ : ByteArray) = D := ⟨_, rfl⟩
              have hDd : D.data.toList = Lib.decDigits u := by rw [← hD]
              rw [hD] at CD
              by_cases hdp : D.data.toList = p.data.toList
              · have hq : (D.toList == p.toList) = true := by rw [Lib.toList_data, Lib.toList_data, hdp]; exact beq_self_eq_true _
                have hqn : (D.toList != p.toList) = false := by rw [bne, hq]; rfl
                have ho : octS p.data.toList = some (UInt8.ofNat u) := by
                  unfold octS; rw [hV, if_neg hneg, Int.toNat_natCast, if_neg (by rw [← hDd, hdp]; simp)]
                have HF := Lib.hid (oct_go HW.out hp ho)
                obtain ⟨cb, hcb⟩ : ∃ cb : UInt8, UInt8.ofNat u = cb := ⟨_, rfl⟩
                have hcu : (u : Int) = (cb.toNat : Int) := by rw [← hcb, UInt8.toNat_ofNat']; omega
                rw [hcb] at HF
                have HCU := Lib.hid hcu
                have hu255 : (u : Int) ≤ 255 := hVt
                obtain ⟨av, cv, rfl⟩ := setW.own_slice HO.out
                have hAj := HO.out
                have HN44 := Lib.hid hn44
                clear hp hV hdg hD hDd hdp ho hcb hcu hneg hn44
                go_upto_region 9 with (first | (go_at_call 37; refine (CC.out _).mono ?_; rintro e w5 ⟨rfl, rfl⟩) | (go_at_call 28; refine (CD.out _ HTw.out.tab.pow).mono ?_; rintro e w5 ⟨rfl, hB5⟩))
                have hown5 := own_below HO.out hB5
                have hsz5 : w3.heap.size ≤ w5.heap.size := Nat.le_trans HB.out.size hB5.size
                have HB5 := Lib.hid (HB.out.trans (hB5.mono HB.out.size))
                clear hB5 hAj
                go_wp2_with (at_builtin; refine wpList_append_own _ rfl _ _ 50 rfl w3.heap.size 5 i0 (.int .u8 0) 1 1 Tryz.underlying50 hi hz0 hz1 hz2 rfl (by decide) _ _ _ rfl (hown5.alloc _) ⟨w5.heap.size, 0, none⟩ 1 1 [.int .u8 (u : Int)] rfl rfl ?c1 ?c2 ?c3 ?c4 ?c5 ?_)
                case c1 => exact cell_one_new _ _ _
                case c2 => simp [Value.oneCell']
                case c3 => unfold maxLen; omega
                case c4 => omega
                case c5 => simp; omega
                intro v' w6 hown' hgrow _
                rw [HCU.out, ← bytes_snoc] at hown'
                have hB6 : Below w3.heap.size w5 w6 := ((Below.refl w3.heap.size w5).alloc hsz5 _).grown hgrow (by rw [World.size_alloc]; omega) (fun i hi => (hown5.lt i hi).1)
                have HO6 : Hid (w6.ownsRow w3.heap.size 5 1 v' (A ++ [cb]).length (Lib.byteCells (A ++ [cb]))) := Lib.hid (by rw [List.length_append]; exact hown')
                have HB6 := Lib.hid (HB5.out.trans hB6)
                clear hown' hgrow hB6 hown5
                go_wp2_with fail
                have hjg := HGK.out
                go_roundg (gk - 1)
                case rel => exact ⟨j + 1, _, by go_num, by omega, by omega, .inl HN44.out, by simp; omega, HF, HO6, HB6⟩
                case measure => omega
              · have hq : (D.toList == p.toList) = false := by rw [Lib.toList_data, Lib.toList_data]; simpa using hdp
                have hqn : (D.toList != p.toList) = true := by rw [bne, hq]; rfl
                have hno : ip4R s = none := by
                  rw [HIP.out, if_pos hn44, HR0.out]
                  exact oct_bad HW.out hp (by unfold octS; rw [hV, if_neg hneg, Int.toNat_natCast, if_pos (by rw [← hDd]; exact hdp)])
                have hPST := HNO.out hno
                subst hPST
                clear hp hV hdg hD hDd hdp hneg hno
                go_wp2_with (first | (go_at_call 37; refine (CC.out _).mono ?_; rintro e w5 ⟨rfl, rfl⟩) | (go_at_call 28; refine (CD.out _ HTw.out.tab.pow).mono ?_; rintro e w5 ⟨rfl, hB5⟩; have HA5 := Lib.hid (HAw.out.below hB5); have HE5 := Lib.hid (HEw.out.trans (EffW.of_below hB5)); clear hB5))
                refine (CB.out _ HA5.out).mono ?_
                rintro e w6 ⟨rfl, rfl⟩
                unfold faultE
                go_wp2_with fail
                exact ⟨rfl, post_err (x := ((k : Int), 2)) (HE0.out.trans HE5.out)⟩
            · have hb4 : ((n : Int) == 4) = false := by rw [beq_eq_false_iff_ne]; omega
              have hb4n : ((n : Int) != 4) = true := by rw [bne, hb4]; rfl
              have hno : ip4R s = none := by rw [HIP.out, if_neg hn44]
              have hPST := HNO.out hno
              subst hPST
              clear hp hV hneg hno hn44
              go_wp2_with (go_at_call 37; refine (CC.out _).mono ?_; rintro e w5 ⟨rfl, rfl⟩)
              refine (CB.out _ HAw.out).mono ?_
              rintro e w5 ⟨rfl, rfl⟩
              unfold faultE
              go_wp2_with fail
              exact ⟨rfl, post_err (x := ((k : Int), 2)) (HE0.out.trans HEw.out)⟩
        · have hje : j = n := by omega
          subst hje
          have hR := oct_end HW.out (Nat.le_of_eq HN.out)
          have hn44 : j = 4 := by omega
          have hyes : ip4R s = some A := by rw [HIP.out, if_pos hn44, HR0.out, hR]
          have hPST := HYES.out A hyes
          subst hPST
          have hst := own_string (P := Tryz.prog) (l := A) HO.out 50 9 5 Tryz.underlying50 Tryz.underlying5 Tryz.underlying9
          clear hR hyes hlt
          go_wp2_with fail
          go_ret
          exact post_ok (HE0.out.trans (HE3.out.trans (EffW.of_below HB.out))) (HA3.out.below HB.out)
end
end Go.Proofs.YtkcpbjoolfojjaaGreatDoor.wdI
namespace Go.Proofs.YtkcpbjoolfojjaaGreatDoor.wdJ
open Go.RowKit Go.Proofs.YtkcpbjoolfojjaaGreatDoor.kit Go.Proofs.YtkcpbjoolfojjaaGreatDoor.nspec Go.Proofs.YtkcpbjoolfojjaaGreatDoor.fld Go.Proofs.YtkcpbjoolfojjaaGreatDoor.bits Go.Proofs.YtkcpbjoolfojjaaGreatDoor.bld Go.Proofs.YtkcpbjoolfojjaaGreatDoor.coded Go.Proofs.YtkcpbjoolfojjaaGreatDoor.rdP Go.Proofs.YtkcpbjoolfojjaaGreatDoor.rdQ Go.Proofs.YtkcpbjoolfojjaaGreatDoor.wd Go.Proofs.YtkcpbjoolfojjaaGreatDoor.wdA Go.Proofs.YtkcpbjoolfojjaaGreatDoor.wdB Go.Proofs.YtkcpbjoolfojjaaGreatDoor.wdC Go.Proofs.YtkcpbjoolfojjaaGreatDoor.wdD Go.Proofs.YtkcpbjoolfojjaaGreatDoor.wdF Go.Proofs.YtkcpbjoolfojjaaGreatDoor.wdI
set_option linter.unusedVariables false

/-- what groups leaves -/
def PostGr (w : World) (o : Option Bs) (e : Ending) (w' : World) : Prop :=
  Below w.heap.size w w' ∧ ((o = none ∧ e = .returned (.tuple #[.slice none 0 0, .bool false])) ∨ ∃ d v, o = some d ∧ e = .returned (.tuple #[v, .bool true]) ∧ w'.ownsRow w.heap.size 5 1 v d.length (Lib.byteCells d))
theorem gr_bad {P : List ByteArray} {j : Nat} {p : ByteArray} {A : Bs} {R : Option Bs} (h : (groupsL (P.drop j)).map (A ++ ·) = R) (hp : P[j]? = some p) (ho : groupS p.data.toList = none) : R = none := by
  obtain ⟨hj, rfl⟩ := List.getElem?_eq_some_iff.1 hp
  rw [← h, List.drop_eq_getElem_cons hj, groupsL, ho]; rfl
theorem gr_go {P : List ByteArray} {j : Nat} {p : ByteArray} {A d : Bs} {R : Option Bs} (h : (groupsL (P.drop j)).map (A ++ ·) = R) (hp : P[j]? = some p) (ho : groupS p.data.toList = some d) : (groupsL (P.drop (j + 1))).map ((A ++ d) ++ ·) = R := by
  obtain ⟨hj, rfl⟩ := List.getElem?_eq_some_iff.1 hp
  rw [← h, List.drop_eq_getElem_cons hj, groupsL, ho]
  cases groupsL (P.drop (j + 1)) <;> simp
theorem gr_end {P : List ByteArray} {j : Nat} {A : Bs} {R : Option Bs} (h : (groupsL (P.drop j)).map (A ++ ·) = R) (hj : P.length ≤ j) : R = some A := by
  rw [← h, List.drop_eq_nil_of_le hj]; simp [groupsL]
theorem own_mono {w : World} {base b' : Nat} {e : TypeId} {v : Value} {n size : Nat} {xs : List Value} (h : w.ownsRow base e size v n xs) (hb : b' ≤ base) : w.ownsRow b' e size v n xs := by
  refine ⟨h.1, ?_⟩
  rcases h.2 with h1 | ⟨g, cap, cur, h1, h2, h3⟩
  · exact .inl h1
  · exact .inr ⟨g, cap, cur, h1, Nat.le_trans hb h2, h3⟩
theorem pow_step {v x i : Nat} (h : v < 16 ^ i) (hx : x < 16) : v * 16 + x < 16 ^ (i + 1) := by rw [Nat.pow_succ]; omega
theorem pow_four {v i : Nat} (h : v < 16 ^ i) (hi : i ≤ 4) : v < 65536 := by
  have h1 : 16 ^ i ≤ 16 ^ 4 := Nat.pow_le_pow_right (by omega) hi
  have h2 : (16 : Nat) ^ 4 = 65536 := by decide
  omega
theorem bytes_two (l : Bs) (c d : UInt8) : Lib.byteCells (l ++ [c, d]) = Lib.byteCells l ++ [.int .u8 (c.toNat : Int), .int .u8 (d.toNat : Int)] := by simp [Lib.byteCells]
set_option maxRecDepth 100000 in
set_option maxHeartbeats 2400000 in
theorem groups_any (s : ByteArray) (w : World) (hs : s.size ≤ 1048576) (ht : TabS w) :
    Calls Tryz.prog 163 #[.string s] w (PostGr w (groupsR s)) := by
  obtain ⟨i0, hi, hz0, hz1, hz2⟩ := info_parts infoByte
  by_cases h0 : s.size = 0
  · have hR : groupsR s = some [] := by unfold groupsR; rw [if_pos h0]
    rw [hR]
    have hem : s.toList.isEmpty = true := by rw [wdE.empty_b]; exact decide_eq_true (List.eq_nil_of_length_eq_zero (by rw [size_len]; exact h0))
    clear hR h0
    go_enter Tryz.func163, Tryz.ntmps163
    go_wp2_with fail
    go_ret2
    exact ⟨Below.refl _ _, .inr ⟨[], _, rfl, rfl, World.ownsRow_nil _ _ _ _⟩⟩
  · have hR : groupsR s = groupsL (splitW 58 s) := by unfold groupsR; rw [if_neg h0]
    rw [hR]
    have hem : s.toList.isEmpty = false := by rw [wdE.empty_b]; exact decide_eq_false (fun e => h0 (by rw [← size_len, e]; rfl))
    have CS := Lib.hid (split_is 58 s w ht hs)
    obtain ⟨PS, hPS⟩ : ∃ PS, splitW 58 s = PS := ⟨_, rfl⟩
    have HPZ : Hid (∀ p ∈ PS, p.size ≤ 1048576) := Lib.hid (fun p hp => Nat.le_trans (splitW_size (c := 58) (by rw [hPS]; exact hp)) hs)
    have hPl : 1 ≤ PS.length ∧ PS.length ≤ 1048577 := by
      rw [← hPS, splitW_len]; have := count_small 58 s; omega
    rw [hPS] at CS ⊢
    obtain ⟨n, hn⟩ : ∃ n, PS.length = n := ⟨_, rfl⟩
    rw [hn] at CS hPl
    obtain ⟨hn1, hn2⟩ := hPl
    have HN := Lib.hid hn
    obtain ⟨R, HR⟩ : ∃ R, Hid ((groupsL (PS.drop 0)).map ([] ++ ·) = R) := ⟨_, Lib.hid rfl⟩
    have HR0 : Hid (groupsL PS = R) := Lib.hid (by
      rw [← HR.out, List.drop_zero]
      cases groupsL PS <;> simp)
    rw [HR0.out]
    clear h0 hR hn hPS ht
    go_enter Tryz.func163, Tryz.ntmps163
    go_wp2_with fail
    refine CS.out.mono ?_
    rintro e w3 ⟨rfl, hw3⟩
    have HB3 : Hid (Below w.heap.size w w3) := Lib.hid (by rw [hw3]; exact (Below.refl _ _).alloc (Nat.le_refl _) _)
    have HPC : Hid (∀ (j : Nat) p, PS[j]? = some p → w3.cell? ⟨w.heap.size, j, none⟩ = some (.string p)) := Lib.hid (fun j p hp => by rw [hw3]; exact piece_at PS w hp)
    have hG3 : w.heap.size < w3.heap.size := by rw [hw3, World.size_alloc]; omega
    clear hw3
    go_wp2_with fail
    go_loopg [4, 6, 7, 8, 9, 15, 27, 28, 29] (n + 1) (fun gas bv _ _ _ _ jv _ _ _ wr => ∃ (j : Nat) (A : Bs), jv = .int .i64 (j : Int) ∧ j ≤ n ∧ j + gas = n + 1 ∧ A.length ≤ 2 * j ∧ Hid ((groupsL (PS.drop j)).map (A ++ ·) = R) ∧ Hid (wr.ownsRow w3.heap.size 5 1 bv A.length (Lib.byteCells A)) ∧ Hid (Below w3.heap.size w3 wr))
    case atStart => exact ⟨0, [], rfl, by omega, by omega, by simp, HR, Lib.hid (World.ownsRow_nil _ _ _ _), Lib.hid (Below.refl _ _)⟩
    case round =>
      obtain ⟨j, A, rfl, hj, hjg, hAl, HW, HO, HB⟩ := hrel
      have HGK := Lib.hid hjg; clear hjg
      by_cases hlt : j < n
      · obtain ⟨g, hp⟩ : ∃ p, PS[j]? = some p := ⟨_, List.getElem?_eq_getElem (by rw [HN.out]; exact hlt)⟩
        have hps := HPZ.out g (List.mem_of_getElem? hp)
        have hcp := (HB.out.cell (p := ⟨w.heap.size, j, none⟩) hG3).trans (HPC.out j g hp)
        have hj0 : (0 : Int) ≤ (j : Int) := by omega
        have hji : (j : Int) < (n : Int) := by omega
        have hml : g.data.toList.length = g.size := size_len g
        by_cases hbad : g.size < 1 ∨ 4 < g.size
        · have hR := gr_bad HW.out hp (by unfold groupS; rw [hml, if_pos hbad])
          clear hp hml
          subst hR
          rcases hbad with hb | hb
          · have hb' : (g.size : Int) < 1 := by omega
            clear hb
            go_wp2_with fail
            go_ret2
            exact ⟨HB3.out.trans (HB.out.mono HB3.out.size), .inl ⟨rfl, rfl⟩⟩
          · have hb' : 4 < (g.size : Int) := by omega
            have hb'' : 1 ≤ (g.size : Int) := by omega
            clear hb
            go_wp2_with fail
            go_ret2
            exact ⟨HB3.out.trans (HB.out.mono HB3.out.size), .inl ⟨rfl, rfl⟩⟩
        · have hm1 : 1 ≤ (g.size : Int) := by omega
          have hm4 : (g.size : Int) ≤ 4 := by omega
          obtain ⟨RV, hRV⟩ : ∃ RV, hexV 0 g.data.toList = RV := ⟨_, rfl⟩
          have HGV : Hid (groupS g.data.toList = RV.map (fun v => [UInt8.ofNat (v / 256), UInt8.ofNat (v % 256)])) := Lib.hid (by rw [group_val (by rw [hml]; omega), hRV])
          have HRV : Hid (hexV 0 (g.data.toList.drop 0) = RV) := Lib.hid hRV
          have HP := Lib.hid hp
          obtain ⟨wo, rfl⟩ : ∃ wo, wo = wr := ⟨_, rfl⟩
          obtain ⟨go, rfl⟩ : ∃ go, go = gk := ⟨_, rfl⟩
          clear hbad hml hRV hp
          go_wp2_with fail
          go_loopg [7, 8, 9, 29] (g.size + 1) (fun gas vv _ _ iv wx => ∃ (i v : Nat), iv = .int .i64 (i : Int) ∧ vv = .int .i64 (v : Int) ∧ i ≤ g.size ∧ i + gas = g.size + 1 ∧ v < 65536 ∧ Hid (v < 16 ^ i) ∧ Hid (hexV v (g.data.toList.drop i) = RV) ∧ wx = wo)
          case atStart => exact ⟨0, 0, rfl, rfl, by omega, by omega, by omega, Lib.hid (by simp), HRV, rfl⟩
          case round =>
            obtain ⟨i, v, rfl, rfl, hi4, hig, hv, HV16, HVR, hwx⟩ := hrel
            subst hwx
            have HIG := Lib.hid hig; clear hig
            by_cases hil : i < g.size
            · have hc := byte_lt g[i]
              have hii : (i : Int) < (g.size : Int) := by omega
              rcases nib_cases g[i] with ⟨x, hx, hx16, hxn, _⟩ | ⟨hx, hxn, _⟩
              · have HXN := Lib.hid hxn
                have hx0 : ¬ (x : Int) < 0 := by omega
                have HF := Lib.hid (hexV_go (by rw [← HVR.out, drop_cons g i hil] : hexV v (g[i] :: g.data.toList.drop (i + 1)) = RV) hx)
                have HS16 := Lib.hid (pow_step HV16.out hx16)
                have hV4 := pow_four HS16.out (by omega)
                obtain ⟨V, hV⟩ : ∃ V : Nat, v * 16 + x = V := ⟨_, rfl⟩
                have HOR : Hid (Value.int .i64 (bits .or .i64 ((v : Int) * 16) (x : Int)) = Value.int .i64 (V : Int)) := Lib.hid (by rw [wdC.or4 (by omega) (by omega) (by omega) (by omega) (by omega)]; congr 1; omega)
                rw [hV] at HF HS16 hV4
                clear hx hxn hV
                go_wp2_with (go_at_call 68; refine (wdC.nibble_is _ _).mono ?_; rintro e w5 ⟨rfl, rfl⟩; simp only [HXN.out])
                rw [HOR.out]
                have hig := HIG.out
                go_roundg (gk - 1)
                case rel => exact ⟨i + 1, V, by go_num, rfl, by omega, by omega, hV4, HS16, HF, rfl⟩
                case measure => omega
              · have HXN := Lib.hid hxn
                have hn := hexV_bad (by rw [← HVR.out, drop_cons g i hil] : hexV v (g[i] :: g.data.toList.drop (i + 1)) = RV) hx
                subst hn
                have hR := gr_bad HW.out HP.out HGV.out
                subst hR
                clear hx hxn
                go_wp2_with (go_at_call 68; refine (wdC.nibble_is _ _).mono ?_; rintro e w5 ⟨rfl, rfl⟩; simp only [HXN.out])
                go_ret2
                exact ⟨HB3.out.trans (HB.out.mono HB3.out.size), .inl ⟨rfl, rfl⟩⟩
            · have hn : RV = some v := by rw [← HVR.out, drop_end g i (by omega)]; rfl
              subst hn
              obtain ⟨c1, hc1⟩ : ∃ c1 : UInt8, UInt8.ofNat (v / 256) = c1 := ⟨_, rfl⟩
              obtain ⟨c2, hc2⟩ : ∃ c2 : UInt8, UInt8.ofNat (v % 256) = c2 := ⟨_, rfl⟩
              have HC1 : Hid ((v : Int) / 256 = (c1.toNat : Int)) := Lib.hid (by rw [← hc1, UInt8.toNat_ofNat']; omega)
              have HC2 : Hid ((v : Int) % 256 = (c2.toNat : Int)) := Lib.hid (by rw [← hc2, UInt8.toNat_ofNat']; omega)
              have HF : Hid ((groupsL (PS.drop (j + 1))).map ((A ++ [c1, c2]) ++ ·) = R) := Lib.hid (by rw [← hc1, ← hc2]; exact gr_go HW.out HP.out HGV.out)
              have hie : (g.size : Int) ≤ (i : Int) := by omega
              obtain ⟨av, cv, rfl⟩ := setW.own_slice HO.out
              clear hc1 hc2 hil
              go_upto_region 18 with fail
              have hvi : (v : Int) < 65536 := by omega
              have hsz := HB.out.size
              clear hv hi4 hie hm1 hm4 hps hcp
              go_wp2_with (at_builtin; refine wpList_append_own _ rfl _ _ 50 rfl w3.heap.size 5 i0 (.int .u8 0) 1 1 Tryz.underlying50 hi hz0 hz1 hz2 rfl (by decide) _ _ _ rfl (HO.out.alloc _) ⟨wr.heap.size, 0, none⟩ 2 2 [.int .u8 ((v : Int) / 256), .int .u8 ((v : Int) % 256)] rfl rfl ?c1 ?c2 ?c3 ?c4 ?c5 ?_)
              case c1 => exact setW.cell_two_new _ _ _ _
              case c2 => simp [Value.oneCell']
              case c3 => unfold maxLen; omega
              case c4 => omega
              case c5 => simp; omega
              intro v' w6 hown' hgrow _
              rw [HC1.out, HC2.out, ← bytes_two] at hown'
              have hB6 : Below w3.heap.size wr w6 := ((Below.refl w3.heap.size wr).alloc hsz _).grown hgrow (by rw [World.size_alloc]; omega) (fun i hi => (HO.out.lt i hi).1)
              have HO6 : Hid (w6.ownsRow w3.heap.size 5 1 v' (A ++ [c1, c2]).length (Lib.byteCells (A ++ [c1, c2]))) := Lib.hid (by rw [List.length_append]; exact hown')
              have HB6 := Lib.hid (HB.out.trans hB6)
              clear hown' hgrow hB6
              go_wp2_with fail
              have hjg := HGK.out
              go_roundg (go - 1)
              case rel => exact ⟨j + 1, _, by go_num, by omega, by omega, by simp; omega, HF, HO6, HB6⟩
              case measure => omega
      · have hje : j = n := by omega
        subst hje
        have hR := gr_end HW.out (Nat.le_of_eq HN.out)
        subst hR
        clear hlt
        go_wp2_with fail
        go_ret2
        refine ⟨HB3.out.trans (HB.out.mono HB3.out.size), .inr ⟨_, _, rfl, rfl, ?_⟩⟩
        exact own_mono HO.out (by omega)
end Go.Proofs.YtkcpbjoolfojjaaGreatDoor.wdJ
