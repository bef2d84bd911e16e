/- data's readers: number, text, tail, hexes, salt, hash: walks. data.words.loose, text and tail: walks. data's readers: text, tail, hexes, salt, hash: walks. -/
import Derived.Test.YtkcpbjoolfojjaaGreatDoorP15
namespace Go.Proofs.YtkcpbjoolfojjaaGreatDoor.wdD
open Go.RowKit Go.Proofs.YtkcpbjoolfojjaaGreatDoor.kit Go.Proofs.YtkcpbjoolfojjaaGreatDoor.nspec Go.Proofs.YtkcpbjoolfojjaaGreatDoor.fld Go.Proofs.YtkcpbjoolfojjaaGreatDoor.bits Go.Proofs.YtkcpbjoolfojjaaGreatDoor.bld Go.Proofs.YtkcpbjoolfojjaaGreatDoor.rdP Go.Proofs.YtkcpbjoolfojjaaGreatDoor.rdQ Go.Proofs.YtkcpbjoolfojjaaGreatDoor.wd Go.Proofs.YtkcpbjoolfojjaaGreatDoor.wdA Go.Proofs.YtkcpbjoolfojjaaGreatDoor.wdB Go.Proofs.YtkcpbjoolfojjaaGreatDoor.wdC
set_option linter.unusedVariables false

theorem takeD {P : Program} {ops : Array Oper} {Q : Exit → Act → World → Prop} {md : Region.Mode} {S : World → Prop} {T : Nat → Bool} {i d : Nat} {oi : Oper} {v : Value} {fuel : Nat} {listed : Array Bool} {a : Act} {w : World} (hi : ops[i]? = some oi) (hd : oi.dst = some d)
    (hs : Region.noSelect ops = true) (hf : Region.free md ops listed i = true) (hr : (Region.ready md ops listed).contains i = true)
    (hQ : ∀ c a w, Q (.panic c) (a.put oi.dst v) w → Q (.panic c) a w) (hT : heldG.waitB md ops T i = true) (hTi : T i = false) (hy : YieldsIf P ops S oi v a) (hS : S w)
    (h : heldG.wpAnyG P md ops Q S T fuel (listed.setIfInBounds i true) (a.put (some d) v) w) : heldG.wpAnyG P md ops Q S T (fuel + 1) listed a w :=
  heldG.takeG hi hs hf hr hQ hT hTi hy hS (by rw [hd]; exact h)
theorem bad_is (C : Nat) (a : Option Addr) (L : List Wo) (cap : Nat) (O : ByteArray) (k : Nat) (c : Int) (w : World) (h : AtW w C a L cap O (k + 1)) :
    Calls Tryz.prog 39 #[.pointer (some ⟨C, 0, none⟩), .int .i64 c] w fun e w' => e = faultE (k : Int) c ∧ w = w' := (bad_any C a L cap O k c w h).mono fun e w' h => ⟨h.1, h.2.symm⟩
theorem count_is (s : ByteArray) (size : Nat) (top : Int) (w : World) (hs : s.size ≤ maxLen) (hsz : size ≤ 17) :
    Calls Tryz.prog 37 #[.string s, .int .i64 (size : Int), .int .i64 top] w fun e w' => e = .returned (.int .i64 (cnt.countS s.data.toList size top)) ∧ w = w' := (cnt.count_any s size top w hs hsz).mono fun e w' h => ⟨h.1, h.2.symm⟩
theorem eff_alloc (C : Nat) (w : World) (o : Obj) {w' : World} (h : EffW C (w.alloc o) w') : EffW C w w' := (EffW.alloc C w o).trans h
theorem at_alloc {w : World} {C : Nat} {a : Option Addr} {L : List Wo} {cap : Nat} {O : ByteArray} {k : Nat} (h : AtW w C a L cap O k) (o : Obj) : AtW (w.alloc o) C a L cap O k := h.below ((Below.refl w.heap.size w).alloc (Nat.le_refl _) o)
theorem at_drew {w : World} {C : Nat} {a : Option Addr} {L : List Wo} {cap : Nat} {O : ByteArray} {k : Nat} (h : AtW w C a L cap O k) : AtW w.drew C a L cap O k := ⟨h.blk, h.rd, h.few, h.sm, h.org, h.le, h.cm, h.kl⟩
theorem count_le (s : Bs) (size : Nat) (top : Int) (h : 0 ≤ top) : cnt.countS s size top ≤ top := by
  unfold cnt.countS
  split
  · omega
  · split <;> omega
section
variable (C : Nat) (a : Option Addr) (L : List Wo) (cap : Nat) (O : ByteArray) (k : Nat) (w : World) (h : AtW w C a L cap O k) (org : Bs)
include h
set_option maxRecDepth 100000 in
set_option maxHeartbeats 1600000 in
theorem number_1 :
    Calls Tryz.prog 132 #[.int .i64 1, .pointer (some ⟨C, 0, none⟩)] w (Post C a L cap O w (fieldR org L k (.num 1))) := by
  have HA0 := Lib.hid (at_drew h)
  have CP := Lib.hid (plain_any C a L cap O k w.drew HA0.out)
  unfold PostP at CP
  unfold Post fieldR oneW
  cases hk : L[k]? with
  | none =>
    rw [hk] at CP
    clear hk h
    go_enter Tryz.func132, Tryz.ntmps132
    go_upto_region 1 with fail
    refine heldG.regionG (fun _ => True) (fun _ => false) (by kernel_rfl) ?_
    refine wdD.takeD (i := 0) (d := 6) (v := .pointer (some ⟨C, 0, none⟩)) rfl rfl (by kernel_rfl) (by kernel_rfl) (by kernel_rfl) (fun _ _ _ h => h) (by kernel_rfl) rfl (Or.inl ⟨by kernel_rfl, ?_⟩) trivial ?_
    · intro wz hSw
      go_simp
    try simp only [Act.put, List.setIfInBounds_toArray, List.set_cons_zero, List.set_cons_succ]
    refine wdD.takeD (i := 2) (d := 8) (v := .int .i64 1) rfl rfl (by kernel_rfl) (by kernel_rfl) (by kernel_rfl) (fun _ _ _ h => h) (by kernel_rfl) rfl (Or.inl ⟨by kernel_rfl, ?_⟩) trivial ?_
    · intro wz hSw
      go_simp
    try simp only [Act.put, List.setIfInBounds_toArray, List.set_cons_zero, List.set_cons_succ]
    refine wdD.takeD (i := 3) (d := 9) (v := .int .i64 8) rfl rfl (by kernel_rfl) (by kernel_rfl) (by kernel_rfl) (fun _ _ _ h => h) (by kernel_rfl) rfl (Or.inl ⟨by kernel_rfl, ?_⟩) trivial ?_
    · intro wz hSw
      go_simp; first | done | kernel_rfl
    try simp only [Act.put, List.setIfInBounds_toArray, List.set_cons_zero, List.set_cons_succ]
    refine wdD.takeD (i := 4) (d := 10) (v := .int .i64 256) rfl rfl (by kernel_rfl) (by kernel_rfl) (by kernel_rfl) (fun _ _ _ h => h) (by kernel_rfl) rfl (Or.inl ⟨by kernel_rfl, ?_⟩) trivial ?_
    · intro wz hSw
      go_simp; first | done | kernel_rfl
    try simp only [Act.put, List.setIfInBounds_toArray, List.set_cons_zero, List.set_cons_succ]
    refine wdD.takeD (i := 5) (d := 11) (v := .int .i64 255) rfl rfl (by kernel_rfl) (by kernel_rfl) (by kernel_rfl) (fun _ _ _ h => h) (by kernel_rfl) rfl (Or.inl ⟨by kernel_rfl, ?_⟩) trivial ?_
    · intro wz hSw
      go_simp; first | done | kernel_rfl
    try simp only [Act.put, List.setIfInBounds_toArray, List.set_cons_zero, List.set_cons_succ]
    refine heldG.readyG (rs := [1]) (by kernel_rfl) (by simp) ?_
    refine heldG.AllG.cons rfl (fun KK hKK => ?_) heldG.AllG.nil
    go_simp
    refine CP.out.mono ?_
    rintro e w1 ⟨he, rfl⟩
    unfold faultE
    exact ⟨rfl, ((EffW.refl C w).drew).trans he, rfl⟩
  | some x =>
    rw [hk] at CP
    have hxs := h.sm x (List.mem_of_getElem? hk)
    obtain ⟨s, q⟩ := x
    simp only at CP hxs ⊢
    have CB := Lib.hid (fun w => bad_is C a L cap O k 2 w)
    clear hk h
    cases q with
    | true =>
      go_enter Tryz.func132, Tryz.ntmps132
      go_upto_region 1 with fail
      refine heldG.regionG (fun _ => True) (fun _ => false) (by kernel_rfl) ?_
      refine wdD.takeD (i := 0) (d := 6) (v := .pointer (some ⟨C, 0, none⟩)) rfl rfl (by kernel_rfl) (by kernel_rfl) (by kernel_rfl) (fun _ _ _ h => h) (by kernel_rfl) rfl (Or.inl ⟨by kernel_rfl, ?_⟩) trivial ?_
      · intro wz hSw
        go_simp
      try simp only [Act.put, List.setIfInBounds_toArray, List.set_cons_zero, List.set_cons_succ]
      refine wdD.takeD (i := 2) (d := 8) (v := .int .i64 1) rfl rfl (by kernel_rfl) (by kernel_rfl) (by kernel_rfl) (fun _ _ _ h => h) (by kernel_rfl) rfl (Or.inl ⟨by kernel_rfl, ?_⟩) trivial ?_
      · intro wz hSw
        go_simp
      try simp only [Act.put, List.setIfInBounds_toArray, List.set_cons_zero, List.set_cons_succ]
      refine wdD.takeD (i := 3) (d := 9) (v := .int .i64 8) rfl rfl (by kernel_rfl) (by kernel_rfl) (by kernel_rfl) (fun _ _ _ h => h) (by kernel_rfl) rfl (Or.inl ⟨by kernel_rfl, ?_⟩) trivial ?_
      · intro wz hSw
        go_simp; first | done | kernel_rfl
      try simp only [Act.put, List.setIfInBounds_toArray, List.set_cons_zero, List.set_cons_succ]
      refine wdD.takeD (i := 4) (d := 10) (v := .int .i64 256) rfl rfl (by kernel_rfl) (by kernel_rfl) (by kernel_rfl) (fun _ _ _ h => h) (by kernel_rfl) rfl (Or.inl ⟨by kernel_rfl, ?_⟩) trivial ?_
      · intro wz hSw
        go_simp; first | done | kernel_rfl
      try simp only [Act.put, List.setIfInBounds_toArray, List.set_cons_zero, List.set_cons_succ]
      refine wdD.takeD (i := 5) (d := 11) (v := .int .i64 255) rfl rfl (by kernel_rfl) (by kernel_rfl) (by kernel_rfl) (fun _ _ _ h => h) (by kernel_rfl) rfl (Or.inl ⟨by kernel_rfl, ?_⟩) trivial ?_
      · intro wz hSw
        go_simp; first | done | kernel_rfl
      try simp only [Act.put, List.setIfInBounds_toArray, List.set_cons_zero, List.set_cons_succ]
      refine heldG.readyG (rs := [1]) (by kernel_rfl) (by simp) ?_
      refine heldG.AllG.cons rfl (fun KK hKK => ?_) heldG.AllG.nil
      go_simp
      refine CP.out.mono ?_
      rintro e w1 ⟨he, rfl⟩
      unfold faultE
      exact ⟨rfl, ((EffW.refl C w).drew).trans he, rfl⟩
    | false =>
      have CC := Lib.hid (fun (w : World) => count_is s 10 255 w (by unfold maxLen; omega) (by omega))
      obtain ⟨V, hV⟩ : ∃ V, cnt.countS s.data.toList 10 255 = V := ⟨_, rfl⟩
      have hVtop : V ≤ 255 := by rw [← hV]; exact count_le _ _ _ (by omega)
      rw [hV] at CC
      have HN : Hid (numR 1 s.data.toList = if V < 0 then none else some (big.bigS V.toNat 1)) := Lib.hid (by
        have e : ((2 ^ (8 * 1) - 1 : Nat) : Int) = 255 := by decide
        unfold numR; rw [e, hV])
      clear hV
      by_cases hneg : V < 0
      · have HN2 : Hid (numR 1 s.data.toList = none) := Lib.hid (by rw [HN.out, if_pos hneg])
        rw [HN2.out]
        clear hVtop
        go_enter Tryz.func132, Tryz.ntmps132
        go_upto_region 1 with fail
        refine heldG.regionG (fun _ => True) (fun _ => false) (by kernel_rfl) ?_
        refine wdD.takeD (i := 0) (d := 6) (v := .pointer (some ⟨C, 0, none⟩)) rfl rfl (by kernel_rfl) (by kernel_rfl) (by kernel_rfl) (fun _ _ _ h => h) (by kernel_rfl) rfl (Or.inl ⟨by kernel_rfl, ?_⟩) trivial ?_
        · intro wz hSw
          go_simp
        try simp only [Act.put, List.setIfInBounds_toArray, List.set_cons_zero, List.set_cons_succ]
        refine wdD.takeD (i := 2) (d := 8) (v := .int .i64 1) rfl rfl (by kernel_rfl) (by kernel_rfl) (by kernel_rfl) (fun _ _ _ h => h) (by kernel_rfl) rfl (Or.inl ⟨by kernel_rfl, ?_⟩) trivial ?_
        · intro wz hSw
          go_simp
        try simp only [Act.put, List.setIfInBounds_toArray, List.set_cons_zero, List.set_cons_succ]
        refine wdD.takeD (i := 3) (d := 9) (v := .int .i64 8) rfl rfl (by kernel_rfl) (by kernel_rfl) (by kernel_rfl) (fun _ _ _ h => h) (by kernel_rfl) rfl (Or.inl ⟨by kernel_rfl, ?_⟩) trivial ?_
        · intro wz hSw
          go_simp; first | done | kernel_rfl
        try simp only [Act.put, List.setIfInBounds_toArray, List.set_cons_zero, List.set_cons_succ]
        refine wdD.takeD (i := 4) (d := 10) (v := .int .i64 256) rfl rfl (by kernel_rfl) (by kernel_rfl) (by kernel_rfl) (fun _ _ _ h => h) (by kernel_rfl) rfl (Or.inl ⟨by kernel_rfl, ?_⟩) trivial ?_
        · intro wz hSw
          go_simp; first | done | kernel_rfl
        try simp only [Act.put, List.setIfInBounds_toArray, List.set_cons_zero, List.set_cons_succ]
        refine wdD.takeD (i := 5) (d := 11) (v := .int .i64 255) rfl rfl (by kernel_rfl) (by kernel_rfl) (by kernel_rfl) (fun _ _ _ h => h) (by kernel_rfl) rfl (Or.inl ⟨by kernel_rfl, ?_⟩) trivial ?_
        · intro wz hSw
          go_simp; first | done | kernel_rfl
        try simp only [Act.put, List.setIfInBounds_toArray, List.set_cons_zero, List.set_cons_succ]
        refine heldG.readyG (rs := [1]) (by kernel_rfl) (by simp) ?_
        refine heldG.AllG.cons rfl (fun KK hKK => ?_) heldG.AllG.nil
        go_simp
        refine CP.out.mono ?_
        rintro e w1 ⟨he, rfl, hA⟩
        have HE := Lib.hid (((EffW.refl C w).drew).trans he)
        have HA := Lib.hid hA
        clear he hA
        dsimp only
        refine hKK.out _ _ (fun _ => trivial) ?_
        clear hKK KK
        try simp only [Act.put, List.setIfInBounds_toArray, List.set_cons_zero, List.set_cons_succ]
        refine heldG.readyG (rs := [6]) (by kernel_rfl) (by simp) ?_
        refine heldG.AllG.cons rfl (fun KK hKK => ?_) heldG.AllG.nil
        go_simp
        refine (CC.out _).mono ?_
        rintro e w3 ⟨rfl, rfl⟩
        dsimp only
        refine hKK.out _ _ (fun _ => trivial) ?_
        clear hKK KK
        try simp only [Act.put, List.setIfInBounds_toArray, List.set_cons_zero, List.set_cons_succ]
        refine heldG.readyG (rs := [7]) (by kernel_rfl) (by simp) ?_
        refine heldG.AllG.cons rfl (fun KK hKK => ?_) heldG.AllG.nil
        go_simp
        refine hKK.out _ _ (fun _ => trivial) ?_
        clear hKK KK
        try simp only [Act.put, List.setIfInBounds_toArray, List.set_cons_zero, List.set_cons_succ]
        refine heldG.doneG (by kernel_rfl) ?_ _
        go_wp2_with fail
        refine (CB.out _ HA.out).mono ?_
        rintro e w3 ⟨rfl, rfl⟩
        unfold faultE
        go_wp2_with fail
        exact ⟨rfl, HE.out, rfl⟩
      · obtain ⟨u, rfl⟩ : ∃ u : Nat, V = (u : Int) := ⟨V.toNat, by omega⟩
        have HN2 : Hid (numR 1 s.data.toList = some (big.bigS u 1)) := Lib.hid (by rw [HN.out, if_neg hneg, Int.toNat_natCast])
        rw [HN2.out]
        have hu0 : ¬ (u : Int) < 0 := hneg
        have CG := Lib.hid (fun (w : World) => big_any u 1 w (by omega) (by omega))
        go_enter Tryz.func132, Tryz.ntmps132
        go_upto_region 1 with fail
        refine heldG.regionG (fun _ => True) (fun _ => false) (by kernel_rfl) ?_
        refine wdD.takeD (i := 0) (d := 6) (v := .pointer (some ⟨C, 0, none⟩)) rfl rfl (by kernel_rfl) (by kernel_rfl) (by kernel_rfl) (fun _ _ _ h => h) (by kernel_rfl) rfl (Or.inl ⟨by kernel_rfl, ?_⟩) trivial ?_
        · intro wz hSw
          go_simp
        try simp only [Act.put, List.setIfInBounds_toArray, List.set_cons_zero, List.set_cons_succ]
        refine wdD.takeD (i := 2) (d := 8) (v := .int .i64 1) rfl rfl (by kernel_rfl) (by kernel_rfl) (by kernel_rfl) (fun _ _ _ h => h) (by kernel_rfl) rfl (Or.inl ⟨by kernel_rfl, ?_⟩) trivial ?_
        · intro wz hSw
          go_simp
        try simp only [Act.put, List.setIfInBounds_toArray, List.set_cons_zero, List.set_cons_succ]
        refine wdD.takeD (i := 3) (d := 9) (v := .int .i64 8) rfl rfl (by kernel_rfl) (by kernel_rfl) (by kernel_rfl) (fun _ _ _ h => h) (by kernel_rfl) rfl (Or.inl ⟨by kernel_rfl, ?_⟩) trivial ?_
        · intro wz hSw
          go_simp; first | done | kernel_rfl
        try simp only [Act.put, List.setIfInBounds_toArray, List.set_cons_zero, List.set_cons_succ]
        refine wdD.takeD (i := 4) (d := 10) (v := .int .i64 256) rfl rfl (by kernel_rfl) (by kernel_rfl) (by kernel_rfl) (fun _ _ _ h => h) (by kernel_rfl) rfl (Or.inl ⟨by kernel_rfl, ?_⟩) trivial ?_
        · intro wz hSw
          go_simp; first | done | kernel_rfl
        try simp only [Act.put, List.setIfInBounds_toArray, List.set_cons_zero, List.set_cons_succ]
        refine wdD.takeD (i := 5) (d := 11) (v := .int .i64 255) rfl rfl (by kernel_rfl) (by kernel_rfl) (by kernel_rfl) (fun _ _ _ h => h) (by kernel_rfl) rfl (Or.inl ⟨by kernel_rfl, ?_⟩) trivial ?_
        · intro wz hSw
          go_simp; first | done | kernel_rfl
        try simp only [Act.put, List.setIfInBounds_toArray, List.set_cons_zero, List.set_cons_succ]
        refine heldG.readyG (rs := [1]) (by kernel_rfl) (by simp) ?_
        refine heldG.AllG.cons rfl (fun KK hKK => ?_) heldG.AllG.nil
        go_simp
        refine CP.out.mono ?_
        rintro e w1 ⟨he, rfl, hA⟩
        have HE := Lib.hid (((EffW.refl C w).drew).trans he)
        have HA := Lib.hid hA
        clear he hA
        dsimp only
        refine hKK.out _ _ (fun _ => trivial) ?_
        clear hKK KK
        try simp only [Act.put, List.setIfInBounds_toArray, List.set_cons_zero, List.set_cons_succ]
        refine heldG.readyG (rs := [6]) (by kernel_rfl) (by simp) ?_
        refine heldG.AllG.cons rfl (fun KK hKK => ?_) heldG.AllG.nil
        go_simp
        refine (CC.out _).mono ?_
        rintro e w3 ⟨rfl, rfl⟩
        dsimp only
        refine hKK.out _ _ (fun _ => trivial) ?_
        clear hKK KK
        try simp only [Act.put, List.setIfInBounds_toArray, List.set_cons_zero, List.set_cons_succ]
        refine heldG.readyG (rs := [7]) (by kernel_rfl) (by simp) ?_
        refine heldG.AllG.cons rfl (fun KK hKK => ?_) heldG.AllG.nil
        go_simp
        refine hKK.out _ _ (fun _ => trivial) ?_
        clear hKK KK
        try simp only [Act.put, List.setIfInBounds_toArray, List.set_cons_zero, List.set_cons_succ]
        refine heldG.doneG (by kernel_rfl) ?_ _
        go_wp2_with fail
        refine (CG.out _).mono ?_
        rintro e w3 ⟨rfl, hB3⟩
        go_wp2_with fail
        go_ret
        exact ⟨HE.out.trans (EffW.of_below hB3), rfl, HA.out.below hB3⟩
set_option maxRecDepth 100000 in
set_option maxHeartbeats 1600000 in
theorem number_2 :
    Calls Tryz.prog 132 #[.int .i64 2, .pointer (some ⟨C, 0, none⟩)] w (Post C a L cap O w (fieldR org L k (.num 2))) := by
  have HA0 := Lib.hid (at_drew h)
  have CP := Lib.hid (plain_any C a L cap O k w.drew HA0.out)
  unfold PostP at CP
  unfold Post fieldR oneW
  cases hk : L[k]? with
  | none =>
    rw [hk] at CP
    clear hk h
    go_enter Tryz.func132, Tryz.ntmps132
    go_upto_region 1 with fail
    refine heldG.regionG (fun _ => True) (fun _ => false) (by kernel_rfl) ?_
    refine wdD.takeD (i := 0) (d := 6) (v := .pointer (some ⟨C, 0, none⟩)) rfl rfl (by kernel_rfl) (by kernel_rfl) (by kernel_rfl) (fun _ _ _ h => h) (by kernel_rfl) rfl (Or.inl ⟨by kernel_rfl, ?_⟩) trivial ?_
    · intro wz hSw
      go_simp
    try simp only [Act.put, List.setIfInBounds_toArray, List.set_cons_zero, List.set_cons_succ]
    refine wdD.takeD (i := 2) (d := 8) (v := .int .i64 2) rfl rfl (by kernel_rfl) (by kernel_rfl) (by kernel_rfl) (fun _ _ _ h => h) (by kernel_rfl) rfl (Or.inl ⟨by kernel_rfl, ?_⟩) trivial ?_
    · intro wz hSw
      go_simp
    try simp only [Act.put, List.setIfInBounds_toArray, List.set_cons_zero, List.set_cons_succ]
    refine wdD.takeD (i := 3) (d := 9) (v := .int .i64 16) rfl rfl (by kernel_rfl) (by kernel_rfl) (by kernel_rfl) (fun _ _ _ h => h) (by kernel_rfl) rfl (Or.inl ⟨by kernel_rfl, ?_⟩) trivial ?_
    · intro wz hSw
      go_simp; first | done | kernel_rfl
    try simp only [Act.put, List.setIfInBounds_toArray, List.set_cons_zero, List.set_cons_succ]
    refine wdD.takeD (i := 4) (d := 10) (v := .int .i64 65536) rfl rfl (by kernel_rfl) (by kernel_rfl) (by kernel_rfl) (fun _ _ _ h => h) (by kernel_rfl) rfl (Or.inl ⟨by kernel_rfl, ?_⟩) trivial ?_
    · intro wz hSw
      go_simp; first | done | kernel_rfl
    try simp only [Act.put, List.setIfInBounds_toArray, List.set_cons_zero, List.set_cons_succ]
    refine wdD.takeD (i := 5) (d := 11) (v := .int .i64 65535) rfl rfl (by kernel_rfl) (by kernel_rfl) (by kernel_rfl) (fun _ _ _ h => h) (by kernel_rfl) rfl (Or.inl ⟨by kernel_rfl, ?_⟩) trivial ?_
    · intro wz hSw
      go_simp; first | done | kernel_rfl
    try simp only [Act.put, List.setIfInBounds_toArray, List.set_cons_zero, List.set_cons_succ]
    refine heldG.readyG (rs := [1]) (by kernel_rfl) (by simp) ?_
    refine heldG.AllG.cons rfl (fun KK hKK => ?_) heldG.AllG.nil
    go_simp
    refine CP.out.mono ?_
    rintro e w1 ⟨he, rfl⟩
    unfold faultE
    exact ⟨rfl, ((EffW.refl C w).drew).trans he, rfl⟩
  | some x =>
    rw [hk] at CP
    have hxs := h.sm x (List.mem_of_getElem? hk)
    obtain ⟨s, q⟩ := x
    simp only at CP hxs ⊢
    have CB := Lib.hid (fun w => bad_is C a L cap O k 2 w)
    clear hk h
    cases q with
    | true =>
      go_enter Tryz.func132, Tryz.ntmps132
      go_upto_region 1 with fail
      refine heldG.regionG (fun _ => True) (fun _ => false) (by kernel_rfl) ?_
      refine wdD.takeD (i := 0) (d := 6) (v := .pointer (some ⟨C, 0, none⟩)) rfl rfl (by kernel_rfl) (by kernel_rfl) (by kernel_rfl) (fun _ _ _ h => h) (by kernel_rfl) rfl (Or.inl ⟨by kernel_rfl, ?_⟩) trivial ?_
      · intro wz hSw
        go_simp
      try simp only [Act.put, List.setIfInBounds_toArray, List.set_cons_zero, List.set_cons_succ]
      refine wdD.takeD (i := 2) (d := 8) (v := .int .i64 2) rfl rfl (by kernel_rfl) (by kernel_rfl) (by kernel_rfl) (fun _ _ _ h => h) (by kernel_rfl) rfl (Or.inl ⟨by kernel_rfl, ?_⟩) trivial ?_
      · intro wz hSw
        go_simp
      try simp only [Act.put, List.setIfInBounds_toArray, List.set_cons_zero, List.set_cons_succ]
      refine wdD.takeD (i := 3) (d := 9) (v := .int .i64 16) rfl rfl (by kernel_rfl) (by kernel_rfl) (by kernel_rfl) (fun _ _ _ h => h) (by kernel_rfl) rfl (Or.inl ⟨by kernel_rfl, ?_⟩) trivial ?_
      · intro wz hSw
        go_simp; first | done | kernel_rfl
      try simp only [Act.put, List.setIfInBounds_toArray, List.set_cons_zero, List.set_cons_succ]
      refine wdD.takeD (i := 4) (d := 10) (v := .int .i64 65536) rfl rfl (by kernel_rfl) (by kernel_rfl) (by kernel_rfl) (fun _ _ _ h => h) (by kernel_rfl) rfl (Or.inl ⟨by kernel_rfl, ?_⟩) trivial ?_
      · intro wz hSw
        go_simp; first | done | kernel_rfl
      try simp only [Act.put, List.setIfInBounds_toArray, List.set_cons_zero, List.set_cons_succ]
      refine wdD.takeD (i := 5) (d := 11) (v := .int .i64 65535) rfl rfl (by kernel_rfl) (by kernel_rfl) (by kernel_rfl) (fun _ _ _ h => h) (by kernel_rfl) rfl (Or.inl ⟨by kernel_rfl, ?_⟩) trivial ?_
      · intro wz hSw
        go_simp; first | done | kernel_rfl
      try simp only [Act.put, List.setIfInBounds_toArray, List.set_cons_zero, List.set_cons_succ]
      refine heldG.readyG (rs := [1]) (by kernel_rfl) (by simp) ?_
      refine heldG.AllG.cons rfl (fun KK hKK => ?_) heldG.AllG.nil
      go_simp
      refine CP.out.mono ?_
      rintro e w1 ⟨he, rfl⟩
      unfold faultE
      exact ⟨rfl, ((EffW.refl C w).drew).trans he, rfl⟩
    | false =>
      have CC := Lib.hid (fun (w : World) => count_is s 10 65535 w (by unfold maxLen; omega) (by omega))
      obtain ⟨V, hV⟩ : ∃ V, cnt.countS s.data.toList 10 65535 = V := ⟨_, rfl⟩
      have hVtop : V ≤ 65535 := by rw [← hV]; exact count_le _ _ _ (by omega)
      rw [hV] at CC
      have HN : Hid (numR 2 s.data.toList = if V < 0 then none else some (big.bigS V.toNat 2)) := Lib.hid (by
        have e : ((2 ^ (8 * 2) - 1 : Nat) : Int) = 65535 := by decide
        unfold numR; rw [e, hV])
      clear hV
      by_cases hneg : V < 0
      · have HN2 : Hid (numR 2 s.data.toList = none) := Lib.hid (by rw [HN.out, if_pos hneg])
        rw [HN2.out]
        clear hVtop
        go_enter Tryz.func132, Tryz.ntmps132
        go_upto_region 1 with fail
        refine heldG.regionG (fun _ => True) (fun _ => false) (by kernel_rfl) ?_
        refine wdD.takeD (i := 0) (d := 6) (v := .pointer (some ⟨C, 0, none⟩)) rfl rfl (by kernel_rfl) (by kernel_rfl) (by kernel_rfl) (fun _ _ _ h => h) (by kernel_rfl) rfl (Or.inl ⟨by kernel_rfl, ?_⟩) trivial ?_
        · intro wz hSw
          go_simp
        try simp only [Act.put, List.setIfInBounds_toArray, List.set_cons_zero, List.set_cons_succ]
        refine wdD.takeD (i := 2) (d := 8) (v := .int .i64 2) rfl rfl (by kernel_rfl) (by kernel_rfl) (by kernel_rfl) (fun _ _ _ h => h) (by kernel_rfl) rfl (Or.inl ⟨by kernel_rfl, ?_⟩) trivial ?_
        · intro wz hSw
          go_simp
        try simp only [Act.put, List.setIfInBounds_toArray, List.set_cons_zero, List.set_cons_succ]
        refine wdD.takeD (i := 3) (d := 9) (v := .int .i64 16) rfl rfl (by kernel_rfl) (by kernel_rfl) (by kernel_rfl) (fun _ _ _ h => h) (by kernel_rfl) rfl (Or.inl ⟨by kernel_rfl, ?_⟩) trivial ?_
        · intro wz hSw
          go_simp; first | done | kernel_rfl
        try simp only [Act.put, List.setIfInBounds_toArray, List.set_cons_zero, List.set_cons_succ]
        refine wdD.takeD (i := 4) (d := 10) (v := .int .i64 65536) rfl rfl (by kernel_rfl) (by kernel_rfl) (by kernel_rfl) (fun _ _ _ h => h) (by kernel_rfl) rfl (Or.inl ⟨by kernel_rfl, ?_⟩) trivial ?_
        · intro wz hSw
          go_simp; first | done | kernel_rfl
        try simp only [Act.put, List.setIfInBounds_toArray, List.set_cons_zero, List.set_cons_succ]
        refine wdD.takeD (i := 5) (d := 11) (v := .int .i64 65535) rfl rfl (by kernel_rfl) (by kernel_rfl) (by kernel_rfl) (fun _ _ _ h => h) (by kernel_rfl) rfl (Or.inl ⟨by kernel_rfl, ?_⟩) trivial ?_
        · intro wz hSw
          go_simp; first | done | kernel_rfl
        try simp only [Act.put, List.setIfInBounds_toArray, List.set_cons_zero, List.set_cons_succ]
        refine heldG.readyG (rs := [1]) (by kernel_rfl) (by simp) ?_
        refine heldG.AllG.cons rfl (fun KK hKK => ?_) heldG.AllG.nil
        go_simp
        refine CP.out.mono ?_
        rintro e w1 ⟨he, rfl, hA⟩
        have HE := Lib.hid (((EffW.refl C w).drew).trans he)
        have HA := Lib.hid hA
        clear he hA
        dsimp only
        refine hKK.out _ _ (fun _ => trivial) ?_
        clear hKK KK
        try simp only [Act.put, List.setIfInBounds_toArray, List.set_cons_zero, List.set_cons_succ]
        refine heldG.readyG (rs := [6]) (by kernel_rfl) (by simp) ?_
        refine heldG.AllG.cons rfl (fun KK hKK => ?_) heldG.AllG.nil
        go_simp
        refine (CC.out _).mono ?_
        rintro e w3 ⟨rfl, rfl⟩
        dsimp only
        refine hKK.out _ _ (fun _ => trivial) ?_
        clear hKK KK
        try simp only [Act.put, List.setIfInBounds_toArray, List.set_cons_zero, List.set_cons_succ]
        refine heldG.readyG (rs := [7]) (by kernel_rfl) (by simp) ?_
        refine heldG.AllG.cons rfl (fun KK hKK => ?_) heldG.AllG.nil
        go_simp
        refine hKK.out _ _ (fun _ => trivial) ?_
        clear hKK KK
        try simp only [Act.put, List.setIfInBounds_toArray, List.set_cons_zero, List.set_cons_succ]
        refine heldG.doneG (by kernel_rfl) ?_ _
        go_wp2_with fail
        refine (CB.out _ HA.out).mono ?_
        rintro e w3 ⟨rfl, rfl⟩
        unfold faultE
        go_wp2_with fail
        exact ⟨rfl, HE.out, rfl⟩
      · obtain ⟨u, rfl⟩ : ∃ u : Nat, V = (u : Int) := ⟨V.toNat, by omega⟩
        have HN2 : Hid (numR 2 s.data.toList = some (big.bigS u 2)) := Lib.hid (by rw [HN.out, if_neg hneg, Int.toNat_natCast])
        rw [HN2.out]
        have hu0 : ¬ (u : Int) < 0 := hneg
        have CG := Lib.hid (fun (w : World) => big_any u 2 w (by omega) (by omega))
        go_enter Tryz.func132, Tryz.ntmps132
        go_upto_region 1 with fail
        refine heldG.regionG (fun _ => True) (fun _ => false) (by kernel_rfl) ?_
        refine wdD.takeD (i := 0) (d := 6) (v := .pointer (some ⟨C, 0, none⟩)) rfl rfl (by kernel_rfl) (by kernel_rfl) (by kernel_rfl) (fun _ _ _ h => h) (by kernel_rfl) rfl (Or.inl ⟨by kernel_rfl, ?_⟩) trivial ?_
        · intro wz hSw
          go_simp
        try simp only [Act.put, List.setIfInBounds_toArray, List.set_cons_zero, List.set_cons_succ]
        refine wdD.takeD (i := 2) (d := 8) (v := .int .i64 2) rfl rfl (by kernel_rfl) (by kernel_rfl) (by kernel_rfl) (fun _ _ _ h => h) (by kernel_rfl) rfl (Or.inl ⟨by kernel_rfl, ?_⟩) trivial ?_
        · intro wz hSw
          go_simp
        try simp only [Act.put, List.setIfInBounds_toArray, List.set_cons_zero, List.set_cons_succ]
        refine wdD.takeD (i := 3) (d := 9) (v := .int .i64 16) rfl rfl (by kernel_rfl) (by kernel_rfl) (by kernel_rfl) (fun _ _ _ h => h) (by kernel_rfl) rfl (Or.inl ⟨by kernel_rfl, ?_⟩) trivial ?_
        · intro wz hSw
          go_simp; first | done | kernel_rfl
        try simp only [Act.put, List.setIfInBounds_toArray, List.set_cons_zero, List.set_cons_succ]
        refine wdD.takeD (i := 4) (d := 10) (v := .int .i64 65536) rfl rfl (by kernel_rfl) (by kernel_rfl) (by kernel_rfl) (fun _ _ _ h => h) (by kernel_rfl) rfl (Or.inl ⟨by kernel_rfl, ?_⟩) trivial ?_
        · intro wz hSw
          go_simp; first | done | kernel_rfl
        try simp only [Act.put, List.setIfInBounds_toArray, List.set_cons_zero, List.set_cons_succ]
        refine wdD.takeD (i := 5) (d := 11) (v := .int .i64 65535) rfl rfl (by kernel_rfl) (by kernel_rfl) (by kernel_rfl) (fun _ _ _ h => h) (by kernel_rfl) rfl (Or.inl ⟨by kernel_rfl, ?_⟩) trivial ?_
        · intro wz hSw
          go_simp; first | done | kernel_rfl
        try simp only [Act.put, List.setIfInBounds_toArray, List.set_cons_zero, List.set_cons_succ]
        refine heldG.readyG (rs := [1]) (by kernel_rfl) (by simp) ?_
        refine heldG.AllG.cons rfl (fun KK hKK => ?_) heldG.AllG.nil
        go_simp
        refine CP.out.mono ?_
        rintro e w1 ⟨he, rfl, hA⟩
        have HE := Lib.hid (((EffW.refl C w).drew).trans he)
        have HA := Lib.hid hA
        clear he hA
        dsimp only
        refine hKK.out _ _ (fun _ => trivial) ?_
        clear hKK KK
        try simp only [Act.put, List.setIfInBounds_toArray, List.set_cons_zero, List.set_cons_succ]
        refine heldG.readyG (rs := [6]) (by kernel_rfl) (by simp) ?_
        refine heldG.AllG.cons rfl (fun KK hKK => ?_) heldG.AllG.nil
        go_simp
        refine (CC.out _).mono ?_
        rintro e w3 ⟨rfl, rfl⟩
        dsimp only
        refine hKK.out _ _ (fun _ => trivial) ?_
        clear hKK KK
        try simp only [Act.put, List.setIfInBounds_toArray, List.set_cons_zero, List.set_cons_succ]
        refine heldG.readyG (rs := [7]) (by kernel_rfl) (by simp) ?_
        refine heldG.AllG.cons rfl (fun KK hKK => ?_) heldG.AllG.nil
        go_simp
        refine hKK.out _ _ (fun _ => trivial) ?_
        clear hKK KK
        try simp only [Act.put, List.setIfInBounds_toArray, List.set_cons_zero, List.set_cons_succ]
        refine heldG.doneG (by kernel_rfl) ?_ _
        go_wp2_with fail
        refine (CG.out _).mono ?_
        rintro e w3 ⟨rfl, hB3⟩
        go_wp2_with fail
        go_ret
        exact ⟨HE.out.trans (EffW.of_below hB3), rfl, HA.out.below hB3⟩
set_option maxRecDepth 100000 in
set_option maxHeartbeats 1600000 in
theorem number_4 :
    Calls Tryz.prog 132 #[.int .i64 4, .pointer (some ⟨C, 0, none⟩)] w (Post C a L cap O w (fieldR org L k (.num 4))) := by
  have HA0 := Lib.hid (at_drew h)
  have CP := Lib.hid (plain_any C a L cap O k w.drew HA0.out)
  unfold PostP at CP
  unfold Post fieldR oneW
  cases hk : L[k]? with
  | none =>
    rw [hk] at CP
    clear hk h
    go_enter Tryz.func132, Tryz.ntmps132
    go_upto_region 1 with fail
    refine heldG.regionG (fun _ => True) (fun _ => false) (by kernel_rfl) ?_
    refine wdD.takeD (i := 0) (d := 6) (v := .pointer (some ⟨C, 0, none⟩)) rfl rfl (by kernel_rfl) (by kernel_rfl) (by kernel_rfl) (fun _ _ _ h => h) (by kernel_rfl) rfl (Or.inl ⟨by kernel_rfl, ?_⟩) trivial ?_
    · intro wz hSw
      go_simp
    try simp only [Act.put, List.setIfInBounds_toArray, List.set_cons_zero, List.set_cons_succ]
    refine wdD.takeD (i := 2) (d := 8) (v := .int .i64 4) rfl rfl (by kernel_rfl) (by kernel_rfl) (by kernel_rfl) (fun _ _ _ h => h) (by kernel_rfl) rfl (Or.inl ⟨by kernel_rfl, ?_⟩) trivial ?_
    · intro wz hSw
      go_simp
    try simp only [Act.put, List.setIfInBounds_toArray, List.set_cons_zero, List.set_cons_succ]
    refine wdD.takeD (i := 3) (d := 9) (v := .int .i64 32) rfl rfl (by kernel_rfl) (by kernel_rfl) (by kernel_rfl) (fun _ _ _ h => h) (by kernel_rfl) rfl (Or.inl ⟨by kernel_rfl, ?_⟩) trivial ?_
    · intro wz hSw
      go_simp; first | done | kernel_rfl
    try simp only [Act.put, List.setIfInBounds_toArray, List.set_cons_zero, List.set_cons_succ]
    refine wdD.takeD (i := 4) (d := 10) (v := .int .i64 4294967296) rfl rfl (by kernel_rfl) (by kernel_rfl) (by kernel_rfl) (fun _ _ _ h => h) (by kernel_rfl) rfl (Or.inl ⟨by kernel_rfl, ?_⟩) trivial ?_
    · intro wz hSw
      go_simp; first | done | kernel_rfl
    try simp only [Act.put, List.setIfInBounds_toArray, List.set_cons_zero, List.set_cons_succ]
    refine wdD.takeD (i := 5) (d := 11) (v := .int .i64 4294967295) rfl rfl (by kernel_rfl) (by kernel_rfl) (by kernel_rfl) (fun _ _ _ h => h) (by kernel_rfl) rfl (Or.inl ⟨by kernel_rfl, ?_⟩) trivial ?_
    · intro wz hSw
      go_simp; first | done | kernel_rfl
    try simp only [Act.put, List.setIfInBounds_toArray, List.set_cons_zero, List.set_cons_succ]
    refine heldG.readyG (rs := [1]) (by kernel_rfl) (by simp) ?_
    refine heldG.AllG.cons rfl (fun KK hKK => ?_) heldG.AllG.nil
    go_simp
    refine CP.out.mono ?_
    rintro e w1 ⟨he, rfl⟩
    unfold faultE
    exact ⟨rfl, ((EffW.refl C w).drew).trans he, rfl⟩
  | some x =>
    rw [hk] at CP
    have hxs := h.sm x (List.mem_of_getElem? hk)
    obtain ⟨s, q⟩ := x
    simp only at CP hxs ⊢
    have CB := Lib.hid (fun w => bad_is C a L cap O k 2 w)
    clear hk h
    cases q with
    | true =>
      go_enter Tryz.func132, Tryz.ntmps132
      go_upto_region 1 with fail
      refine heldG.regionG (fun _ => True) (fun _ => false) (by kernel_rfl) ?_
      refine wdD.takeD (i := 0) (d := 6) (v := .pointer (some ⟨C, 0, none⟩)) rfl rfl (by kernel_rfl) (by kernel_rfl) (by kernel_rfl) (fun _ _ _ h => h) (by kernel_rfl) rfl (Or.inl ⟨by kernel_rfl, ?_⟩) trivial ?_
      · intro wz hSw
        go_simp
      try simp only [Act.put, List.setIfInBounds_toArray, List.set_cons_zero, List.set_cons_succ]
      refine wdD.takeD (i := 2) (d := 8) (v := .int .i64 4) rfl rfl (by kernel_rfl) (by kernel_rfl) (by kernel_rfl) (fun _ _ _ h => h) (by kernel_rfl) rfl (Or.inl ⟨by kernel_rfl, ?_⟩) trivial ?_
      · intro wz hSw
        go_simp
      try simp only [Act.put, List.setIfInBounds_toArray, List.set_cons_zero, List.set_cons_succ]
      refine wdD.takeD (i := 3) (d := 9) (v := .int .i64 32) rfl rfl (by kernel_rfl) (by kernel_rfl) (by kernel_rfl) (fun _ _ _ h => h) (by kernel_rfl) rfl (Or.inl ⟨by kernel_rfl, ?_⟩) trivial ?_
      · intro wz hSw
        go_simp; first | done | kernel_rfl
      try simp only [Act.put, List.setIfInBounds_toArray, List.set_cons_zero, List.set_cons_succ]
      refine wdD.takeD (i := 4) (d := 10) (v := .int .i64 4294967296) rfl rfl (by kernel_rfl) (by kernel_rfl) (by kernel_rfl) (fun _ _ _ h => h) (by kernel_rfl) rfl (Or.inl ⟨by kernel_rfl, ?_⟩) trivial ?_
      · intro wz hSw
        go_simp; first | done | kernel_rfl
      try simp only [Act.put, List.setIfInBounds_toArray, List.set_cons_zero, List.set_cons_succ]
      refine wdD.takeD (i := 5) (d := 11) (v := .int .i64 4294967295) rfl rfl (by kernel_rfl) (by kernel_rfl) (by kernel_rfl) (fun _ _ _ h => h) (by kernel_rfl) rfl (Or.inl ⟨by kernel_rfl, ?_⟩) trivial ?_
      · intro wz hSw
        go_simp; first | done | kernel_rfl
      try simp only [Act.put, List.setIfInBounds_toArray, List.set_cons_zero, List.set_cons_succ]
      refine heldG.readyG (rs := [1]) (by kernel_rfl) (by simp) ?_
      refine heldG.AllG.cons rfl (fun KK hKK => ?_) heldG.AllG.nil
      go_simp
      refine CP.out.mono ?_
      rintro e w1 ⟨he, rfl⟩
      unfold faultE
      exact ⟨rfl, ((EffW.refl C w).drew).trans he, rfl⟩
    | false =>
      have CC := Lib.hid (fun (w : World) => count_is s 10 4294967295 w (by unfold maxLen; omega) (by omega))
      obtain ⟨V, hV⟩ : ∃ V, cnt.countS s.data.toList 10 4294967295 = V := ⟨_, rfl⟩
      have hVtop : V ≤ 4294967295 := by rw [← hV]; exact count_le _ _ _ (by omega)
      rw [hV] at CC
      have HN : Hid (numR 4 s.data.toList = if V < 0 then none else some (big.bigS V.toNat 4)) := Lib.hid (by
        have e : ((2 ^ (8 * 4) - 1 : Nat) : Int) = 4294967295 := by decide
        unfold numR; rw [e, hV])
      clear hV
      by_cases hneg : V < 0
      · have HN2 : Hid (numR 4 s.data.toList = none) := Lib.hid (by rw [HN.out, if_pos hneg])
        rw [HN2.out]
        clear hVtop
        go_enter Tryz.func132, Tryz.ntmps132
        go_upto_region 1 with fail
        refine heldG.regionG (fun _ => True) (fun _ => false) (by kernel_rfl) ?_
        refine wdD.takeD (i := 0) (d := 6) (v := .pointer (some ⟨C, 0, none⟩)) rfl rfl (by kernel_rfl) (by kernel_rfl) (by kernel_rfl) (fun _ _ _ h => h) (by kernel_rfl) rfl (Or.inl ⟨by kernel_rfl, ?_⟩) trivial ?_
        · intro wz hSw
          go_simp
        try simp only [Act.put, List.setIfInBounds_toArray, List.set_cons_zero, List.set_cons_succ]
        refine wdD.takeD (i := 2) (d := 8) (v := .int .i64 4) rfl rfl (by kernel_rfl) (by kernel_rfl) (by kernel_rfl) (fun _ _ _ h => h) (by kernel_rfl) rfl (Or.inl ⟨by kernel_rfl, ?_⟩) trivial ?_
        · intro wz hSw
          go_simp
        try simp only [Act.put, List.setIfInBounds_toArray, List.set_cons_zero, List.set_cons_succ]
        refine wdD.takeD (i := 3) (d := 9) (v := .int .i64 32) rfl rfl (by kernel_rfl) (by kernel_rfl) (by kernel_rfl) (fun _ _ _ h => h) (by kernel_rfl) rfl (Or.inl ⟨by kernel_rfl, ?_⟩) trivial ?_
        · intro wz hSw
          go_simp; first | done | kernel_rfl
        try simp only [Act.put, List.setIfInBounds_toArray, List.set_cons_zero, List.set_cons_succ]
        refine wdD.takeD (i := 4) (d := 10) (v := .int .i64 4294967296) rfl rfl (by kernel_rfl) (by kernel_rfl) (by kernel_rfl) (fun _ _ _ h => h) (by kernel_rfl) rfl (Or.inl ⟨by kernel_rfl, ?_⟩) trivial ?_
        · intro wz hSw
          go_simp; first | done | kernel_rfl
        try simp only [Act.put, List.setIfInBounds_toArray, List.set_cons_zero, List.set_cons_succ]
        refine wdD.takeD (i := 5) (d := 11) (v := .int .i64 4294967295) rfl rfl (by kernel_rfl) (by kernel_rfl) (by kernel_rfl) (fun _ _ _ h => h) (by kernel_rfl) rfl (Or.inl ⟨by kernel_rfl, ?_⟩) trivial ?_
        · intro wz hSw
          go_simp; first | done | kernel_rfl
        try simp only [Act.put, List.setIfInBounds_toArray, List.set_cons_zero, List.set_cons_succ]
        refine heldG.readyG (rs := [1]) (by kernel_rfl) (by simp) ?_
        refine heldG.AllG.cons rfl (fun KK hKK => ?_) heldG.AllG.nil
        go_simp
        refine CP.out.mono ?_
        rintro e w1 ⟨he, rfl, hA⟩
        have HE := Lib.hid (((EffW.refl C w).drew).trans he)
        have HA := Lib.hid hA
        clear he hA
        dsimp only
        refine hKK.out _ _ (fun _ => trivial) ?_
        clear hKK KK
        try simp only [Act.put, List.setIfInBounds_toArray, List.set_cons_zero, List.set_cons_succ]
        refine heldG.readyG (rs := [6]) (by kernel_rfl) (by simp) ?_
        refine heldG.AllG.cons rfl (fun KK hKK => ?_) heldG.AllG.nil
        go_simp
        refine (CC.out _).mono ?_
        rintro e w3 ⟨rfl, rfl⟩
        dsimp only
        refine hKK.out _ _ (fun _ => trivial) ?_
        clear hKK KK
        try simp only [Act.put, List.setIfInBounds_toArray, List.set_cons_zero, List.set_cons_succ]
        refine heldG.readyG (rs := [7]) (by kernel_rfl) (by simp) ?_
        refine heldG.AllG.cons rfl (fun KK hKK => ?_) heldG.AllG.nil
        go_simp
        refine hKK.out _ _ (fun _ => trivial) ?_
        clear hKK KK
        try simp only [Act.put, List.setIfInBounds_toArray, List.set_cons_zero, List.set_cons_succ]
        refine heldG.doneG (by kernel_rfl) ?_ _
        go_wp2_with fail
        refine (CB.out _ HA.out).mono ?_
        rintro e w3 ⟨rfl, rfl⟩
        unfold faultE
        go_wp2_with fail
        exact ⟨rfl, HE.out, rfl⟩
      · obtain ⟨u, rfl⟩ : ∃ u : Nat, V = (u : Int) := ⟨V.toNat, by omega⟩
        have HN2 : Hid (numR 4 s.data.toList = some (big.bigS u 4)) := Lib.hid (by rw [HN.out, if_neg hneg, Int.toNat_natCast])
        rw [HN2.out]
        have hu0 : ¬ (u : Int) < 0 := hneg
        have CG := Lib.hid (fun (w : World) => big_any u 4 w (by omega) (by omega))
        go_enter Tryz.func132, Tryz.ntmps132
        go_upto_region 1 with fail
        refine heldG.regionG (fun _ => True) (fun _ => false) (by kernel_rfl) ?_
        refine wdD.takeD (i := 0) (d := 6) (v := .pointer (some ⟨C, 0, none⟩)) rfl rfl (by kernel_rfl) (by kernel_rfl) (by kernel_rfl) (fun _ _ _ h => h) (by kernel_rfl) rfl (Or.inl ⟨by kernel_rfl, ?_⟩) trivial ?_
        · intro wz hSw
          go_simp
        try simp only [Act.put, List.setIfInBounds_toArray, List.set_cons_zero, List.set_cons_succ]
        refine wdD.takeD (i := 2) (d := 8) (v := .int .i64 4) rfl rfl (by kernel_rfl) (by kernel_rfl) (by kernel_rfl) (fun _ _ _ h => h) (by kernel_rfl) rfl (Or.inl ⟨by kernel_rfl, ?_⟩) trivial ?_
        · intro wz hSw
          go_simp
        try simp only [Act.put, List.setIfInBounds_toArray, List.set_cons_zero, List.set_cons_succ]
        refine wdD.takeD (i := 3) (d := 9) (v := .int .i64 32) rfl rfl (by kernel_rfl) (by kernel_rfl) (by kernel_rfl) (fun _ _ _ h => h) (by kernel_rfl) rfl (Or.inl ⟨by kernel_rfl, ?_⟩) trivial ?_
        · intro wz hSw
          go_simp; first | done | kernel_rfl
        try simp only [Act.put, List.setIfInBounds_toArray, List.set_cons_zero, List.set_cons_succ]
        refine wdD.takeD (i := 4) (d := 10) (v := .int .i64 4294967296) rfl rfl (by kernel_rfl) (by kernel_rfl) (by kernel_rfl) (fun _ _ _ h => h) (by kernel_rfl) rfl (Or.inl ⟨by kernel_rfl, ?_⟩) trivial ?_
        · intro wz hSw
          go_simp; first | done | kernel_rfl
        try simp only [Act.put, List.setIfInBounds_toArray, List.set_cons_zero, List.set_cons_succ]
        refine wdD.takeD (i := 5) (d := 11) (v := .int .i64 4294967295) rfl rfl (by kernel_rfl) (by kernel_rfl) (by kernel_rfl) (fun _ _ _ h => h) (by kernel_rfl) rfl (Or.inl ⟨by kernel_rfl, ?_⟩) trivial ?_
        · intro wz hSw
          go_simp; first | done | kernel_rfl
        try simp only [Act.put, List.setIfInBounds_toArray, List.set_cons_zero, List.set_cons_succ]
        refine heldG.readyG (rs := [1]) (by kernel_rfl) (by simp) ?_
        refine heldG.AllG.cons rfl (fun KK hKK => ?_) heldG.AllG.nil
        go_simp
        refine CP.out.mono ?_
        rintro e w1 ⟨he, rfl, hA⟩
        have HE := Lib.hid (((EffW.refl C w).drew).trans he)
        have HA := Lib.hid hA
        clear he hA
        dsimp only
        refine hKK.out _ _ (fun _ => trivial) ?_
        clear hKK KK
        try simp only [Act.put, List.setIfInBounds_toArray, List.set_cons_zero, List.set_cons_succ]
        refine heldG.readyG (rs := [6]) (by kernel_rfl) (by simp) ?_
        refine heldG.AllG.cons rfl (fun KK hKK => ?_) heldG.AllG.nil
        go_simp
        refine (CC.out _).mono ?_
        rintro e w3 ⟨rfl, rfl⟩
        dsimp only
        refine hKK.out _ _ (fun _ => trivial) ?_
        clear hKK KK
        try simp only [Act.put, List.setIfInBounds_toArray, List.set_cons_zero, List.set_cons_succ]
        refine heldG.readyG (rs := [7]) (by kernel_rfl) (by simp) ?_
        refine heldG.AllG.cons rfl (fun KK hKK => ?_) heldG.AllG.nil
        go_simp
        refine hKK.out _ _ (fun _ => trivial) ?_
        clear hKK KK
        try simp only [Act.put, List.setIfInBounds_toArray, List.set_cons_zero, List.set_cons_succ]
        refine heldG.doneG (by kernel_rfl) ?_ _
        go_wp2_with fail
        refine (CG.out _).mono ?_
        rintro e w3 ⟨rfl, hB3⟩
        go_wp2_with fail
        go_ret
        exact ⟨HE.out.trans (EffW.of_below hB3), rfl, HA.out.below hB3⟩
theorem number_read (n : Nat) (hn : n = 1 ∨ n = 2 ∨ n = 4) :
    Calls Tryz.prog 132 #[.int .i64 (n : Int), .pointer (some ⟨C, 0, none⟩)] w (Post C a L cap O w (fieldR org L k (.num n))) := by
  rcases hn with rfl | rfl | rfl
  · exact number_1 C a L cap O k w h org
  · exact number_2 C a L cap O k w h org
  · exact number_4 C a L cap O k w h org
end
end Go.Proofs.YtkcpbjoolfojjaaGreatDoor.wdD
namespace Go.Proofs.YtkcpbjoolfojjaaGreatDoor.wdL
open Go.RowKit Go.Proofs.YtkcpbjoolfojjaaGreatDoor.kit Go.Proofs.YtkcpbjoolfojjaaGreatDoor.nspec Go.Proofs.YtkcpbjoolfojjaaGreatDoor.fld Go.Proofs.YtkcpbjoolfojjaaGreatDoor.bits Go.Proofs.YtkcpbjoolfojjaaGreatDoor.bld Go.Proofs.YtkcpbjoolfojjaaGreatDoor.rdP Go.Proofs.YtkcpbjoolfojjaaGreatDoor.rdQ Go.Proofs.YtkcpbjoolfojjaaGreatDoor.wd Go.Proofs.YtkcpbjoolfojjaaGreatDoor.wdA Go.Proofs.YtkcpbjoolfojjaaGreatDoor.wdB Go.Proofs.YtkcpbjoolfojjaaGreatDoor.wdC Go.Proofs.YtkcpbjoolfojjaaGreatDoor.wdD
set_option linter.unusedVariables false

theorem extract_list (s : ByteArray) (i j : Nat) : (s.extract i j).data.toList = (s.data.toList.drop i).take (j - i) := by
  rw [ByteArray.data_extract, Array.toList_extract, List.extract_eq_take_drop]
theorem word_field (s : ByteArray) (q : Bool) (w : World) : (Instr.field 24 (.agg #[.string s, .bool q]) 0).run Tryz.prog w = .ok (.string s) w := by kernel_rfl
/-- three digits -/
theorem cnt_three (d a b : UInt8) : cnt.countS [d, a, b] 3 255 = if readS.digB d && readS.digB a && readS.digB b then (if 255 < (d.toNat - 48) * 100 + (a.toNat - 48) * 10 + (b.toNat - 48) then -1 else (((d.toNat - 48) * 100 + (a.toNat - 48) * 10 + (b.toNat - 48) : Nat) : Int)) else -1 := by
  have e : ∀ c : UInt8, readS.digB c = cnt.digB c := fun c => by unfold readS.digB cnt.digB; rfl
  have g : ∀ c : UInt8, cnt.digB c = true → 48 ≤ c.toNat ∧ c.toNat ≤ 57 := fun c h => by
    unfold cnt.digB at h
    rw [Bool.and_eq_true, decide_eq_true_eq, decide_eq_true_eq] at h; exact h
  rw [e, e, e]
  have hN : cnt.numS 0 [d, a, b] = if cnt.digB d && cnt.digB a && cnt.digB b then (((d.toNat - 48) * 100 + (a.toNat - 48) * 10 + (b.toNat - 48) : Nat) : Int) else -1 := by
    simp only [cnt.numS]
    cases hd : cnt.digB d
    · simp
    · have gd := g d hd
      cases ha : cnt.digB a
      · simp
      · have ga := g a ha
        cases hb : cnt.digB b
        · simp
        · have gb := g b hb
          simp only [Bool.and_self, if_true]
          omega
  rw [cnt.count_in (by simp) (by simp) hN]
  split
  · split <;> split <;> omega
  · rfl
theorem piece_three {d a b : UInt8} {t : Bs} (hd : readS.digB d = true) : readS.pieceS (92 :: d :: a :: b :: t) = if cnt.countS [d, a, b] 3 255 < 0 then none else some (UInt8.ofNat (cnt.countS [d, a, b] 3 255).toNat, 4) := by
  rw [cnt_three]
  unfold readS.pieceS; simp only
  rw [if_pos (by decide)]
  unfold readS.escS; simp only
  rw [if_neg (by rw [hd]; simp), hd]
  cases ha : readS.digB a <;> cases hb : readS.digB b <;> simp only [Bool.and_true, Bool.and_false, Bool.false_eq_true, if_false, if_true]
  · rfl
  · rfl
  · rfl
  · split
    · rfl
    · rw [if_neg (by omega), Int.toNat_natCast]
theorem piece_short {d : UInt8} {t : Bs} (hd : readS.digB d = true) (h : t.length < 2) : readS.pieceS (92 :: d :: t) = none := by
  unfold readS.pieceS; simp only
  rw [if_pos (by decide)]
  unfold readS.escS; simp only
  rw [if_neg (by rw [hd]; simp)]
  match t, h with
  | [], _ => rfl
  | [x], _ => rfl
  | _ :: _ :: _, h => simp at h; omega
/-- what loose leaves -/
def PostL (C : Nat) (a : Option Addr) (L : List Wo) (cap : Nat) (O : ByteArray) (w : World) (k : Nat) (e : Ending) (w' : World) : Prop :=
  EffW C w w' ∧ match L[k]? with
  | none => e = faultE (L.length : Int) 2
  | some x => match looseS x.s.data.toList with
    | none => e = faultE (k : Int) 2
    | some d => e = .returned (.string ⟨d.toArray⟩) ∧ AtW w' C a L cap O (k + 1)
set_option maxRecDepth 100000 in
set_option maxHeartbeats 3000000 in
theorem loose_any (C : Nat) (a : Option Addr) (L : List Wo) (cap : Nat) (O : ByteArray) (k : Nat) (w : World) (h : AtW w C a L cap O k) :
    Calls Tryz.prog 154 #[.pointer (some ⟨C, 0, none⟩)] w (PostL C a L cap O w k) := by
  have CA := Lib.hid (any_any C a L cap O k w h)
  unfold PostW at CA
  unfold PostL
  cases hk : L[k]? with
  | none =>
    rw [hk] at CA
    clear hk h
    go_enter Tryz.func154, Tryz.ntmps154
    go_wp2_with fail
    refine CA.out.mono ?_
    rintro e w1 ⟨he, rfl⟩
    unfold faultE
    go_wp2_with fail
    exact ⟨rfl, he, rfl⟩
  | some x =>
    rw [hk] at CA
    have hxs := h.sm x (List.mem_of_getElem? hk)
    obtain ⟨s, q⟩ := x
    simp only at CA hxs ⊢
    have CB := Lib.hid (fun w => bad_is C a L cap O k 2 w)
    have hfield := fun w => word_field s q w
    obtain ⟨R, HR⟩ : ∃ R, Hid ((looseS (s.data.toList.drop 0)).map ([] ++ ·) = R) := ⟨_, Lib.hid rfl⟩
    have HR0 : Hid (looseS s.data.toList = R) := Lib.hid (by
      rw [← HR.out, List.drop_zero]
      cases looseS s.data.toList <;> simp)
    rw [HR0.out]
    have hltC := h.lt
    have HLT := Lib.hid hltC
    clear hk h
    go_enter Tryz.func154, Tryz.ntmps154
    go_wp2_with fail
    refine CA.out.mono ?_
    rintro e w1 ⟨he, rfl, hA⟩
    have H1 := Lib.hid hA
    have HE1 := Lib.hid he
    have HFB := Lib.hid (Lib.fresh_isBuilder 52 5 w1)
    have hBa := ((Below.refl w1.heap.size w1).alloc (Nat.le_refl _) (.cells #[.pointer none, .slice none 0 0] 52))
    have HA2 := Lib.hid (hA.below hBa)
    have HE2 := Lib.hid (EffW.of_below (C := C) hBa)
    clear he hA hBa CA
    go_wp2_with fail
    go_loopg [5] (s.size + 1) (fun gas jv wr => ∃ (j : Nat) (A : Bs), jv = .int .i64 (j : Int) ∧ j ≤ s.size ∧ s.size < j + gas ∧ A.length ≤ j ∧ Hid ((looseS (s.data.toList.drop j)).map (A ++ ·) = R) ∧ Hid (Bld w1.heap.size w1.heap.size A wr) ∧ Hid (AtW wr C a L cap O (k + 1)) ∧ Hid (EffW C w1 wr))
    case atStart => exact ⟨0, [], rfl, by omega, by omega, by simp, HR, HFB, HA2, HE2⟩
    case round =>
      clear HFB HA2 HE2
      obtain ⟨j, A, rfl, hj, hjg, hAl, HW, HB, HA, HE⟩ := hrel
      have HG := Lib.hid hjg; clear hjg
      have hsz := HE.out.size
      by_cases hlt : j < s.size
      · have hc := byte_lt s[j]
        have HD := Lib.hid (drop_cons s j hlt)
        have key : ∀ (c : UInt8) (wz : World), Below w1.heap.size wr wz → AtW wz C a L cap O (k + 1) ∧ EffW C w1 wz := fun c wz hb => on_below H1.out HA.out HE.out hb
        have KEY := Lib.hid key
        clear key
        by_cases h92 : s[j].toNat = 92
        · have hs92 : s[j] = 92 := UInt8.toNat_inj.1 h92
          have hb92 : ((s[j].toNat : Int) == 92) = true := by rw [beq_iff_eq]; omega
          have hn92 : ((s[j].toNat : Int) != 92) = false := by rw [bne, hb92]; rfl
          by_cases hend : s.size ≤ j + 1
          · have hR := loose_bad (s := s.data.toList.drop j) HW.out (by rw [HD.out]; simp) (by rw [HD.out, hs92, drop_end s (j + 1) hend]; rfl)
            subst hR
            have hei : (s.size : Int) ≤ (j : Int) + 1 := by omega
            clear hs92
            go_wp2_with fail
            refine (CB.out _ HA.out).mono ?_
            rintro e w3 ⟨rfl, rfl⟩
            unfold faultE
            go_wp2_with fail
            exact ⟨rfl, HE1.out.trans HE.out, rfl⟩
          · have hl1 : j + 1 < s.size := by omega
            have hei : (j : Int) + 1 < (s.size : Int) := by omega
            have hd1 := byte_lt s[j + 1]
            have HD1 := Lib.hid (drop_cons s (j + 1) hl1)
            rcases escaped.digB_cases s[j + 1] with ⟨hdig, hd48, hd57⟩ | hdig
            · have z48 : (48 : Int) ≤ (s[j + 1].toNat : Int) := by omega
              have z57 : (s[j + 1].toNat : Int) ≤ 57 := by omega
              have HDIG := Lib.hid hdig
              have HS92 := Lib.hid hs92
              clear hs92 hdig hd48 hd57
              by_cases h4 : j + 4 ≤ s.size
              · have hx := drop_cons s (j + 2) (by omega)
                have hy := drop_cons s (j + 3) (by omega)
                obtain ⟨V, hV⟩ : ∃ V, cnt.countS [s[j + 1], s[j + 2], s[j + 3]] 3 255 = V := ⟨_, rfl⟩
                have hp : readS.pieceS (s.data.toList.drop j) = if V < 0 then none else some (UInt8.ofNat V.toNat, 4) := by
                  rw [HD.out, HS92.out, HD1.out, hx, hy, piece_three HDIG.out, hV]
                have hVt : V ≤ 255 := by rw [← hV]; exact count_le _ _ _ (by omega)
                have he : (s.extract (j + 1) (j + 4)).data.toList = [s[j + 1], s[j + 2], s[j + 3]] := by
                  rw [extract_list, HD1.out, hx, hy, show j + 4 - (j + 1) = 3 by omega]; rfl
                have hes : (s.extract (j + 1) (j + 4)).size ≤ maxLen := by
                  rw [← size_len, he]; unfold maxLen; simp
                have CC := Lib.hid (fun (w : World) => count_is (s.extract (j + 1) (j + 4)) 3 255 w hes (by omega))
                rw [he, hV] at CC
                have h4i : (j : Int) + 4 ≤ (s.size : Int) := by omega
                clear hx hy hV he hes
                by_cases hneg : V < 0
                · have hR := loose_bad (s := s.data.toList.drop j) HW.out (by rw [HD.out]; simp) (by rw [hp, if_pos hneg])
                  subst hR
                  clear hp
                  go_wp2_with (go_at_call 37; refine (CC.out _).mono ?_; rintro e w3 ⟨rfl, rfl⟩)
                  refine (CB.out _ HA.out).mono ?_
                  rintro e w3 ⟨rfl, rfl⟩
                  unfold faultE
                  go_wp2_with fail
                  exact ⟨rfl, HE1.out.trans HE.out, rfl⟩
                · obtain ⟨u, rfl⟩ : ∃ u : Nat, V = (u : Int) := ⟨V.toNat, by omega⟩
                  have HF := Lib.hid (loose_go HW.out (by rw [hp, if_neg hneg, Int.toNat_natCast]))
                  rw [List.drop_drop] at HF
                  have HWB := Lib.hid (wbi w1.heap.size w1.heap.size A (UInt8.ofNat u) (u : Int) (by rw [UInt8.toNat_ofNat']; omega) wr HB.out (by omega) hsz)
                  have hu : ¬ (u : Int) < 0 := hneg
                  clear hp
                  go_wp2_with (go_at_call 37; refine (CC.out _).mono ?_; rintro e w3 ⟨rfl, rfl⟩)
                  refine HWB.out.mono ?_
                  rintro e w4 ⟨rfl, hb4, hE4⟩
                  obtain ⟨hA4, he4⟩ := KEY.out 0 w4 hE4
                  have HB4 := Lib.hid hb4; have HA4 := Lib.hid hA4; have HE4 := Lib.hid he4
                  clear hb4 hA4 he4 hE4
                  go_wp2_with fail
                  have hjg := HG.out
                  go_roundg (gk - 1)
                  case rel => exact ⟨j + 4, _, by go_num, by omega, by omega, by simp; omega, HF, HB4, HA4, HE4⟩
                  case measure => omega
              · have hR := loose_bad (s := s.data.toList.drop j) HW.out (by rw [HD.out]; simp) (by rw [HD.out, HS92.out, HD1.out]; exact piece_short HDIG.out (by rw [List.length_drop, size_len]; omega))
                subst hR
                have h4i : (s.size : Int) < (j : Int) + 4 := by omega
                go_wp2_with fail
                refine (CB.out _ HA.out).mono ?_
                rintro e w3 ⟨rfl, rfl⟩
                unfold faultE
                go_wp2_with fail
                exact ⟨rfl, HE1.out.trans HE.out, rfl⟩
            · have hnd : s[j + 1].toNat < 48 ∨ 57 < s[j + 1].toNat := by
                unfold readS.digB at hdig
                rw [Bool.and_eq_false_iff, decide_eq_false_iff_not, decide_eq_false_iff_not] at hdig
                omega
              have HF := Lib.hid (loose_go (s := s.data.toList.drop j) (c := s[j + 1]) (n := 2) HW.out (by rw [HD.out, hs92, HD1.out]; unfold readS.pieceS; simp only; rw [if_pos (by decide)]; unfold readS.escS; simp only; rw [if_pos hdig]))
              rw [List.drop_drop] at HF
              have HWB := Lib.hid (wb w1.heap.size w1.heap.size A s[j + 1] wr HB.out (by omega) hsz)
              clear hs92 hdig
              rcases hnd with hnd | hnd
              · have z48 : (s[j + 1].toNat : Int) < 48 := by omega
                clear hnd
                go_wp2_with fail
                refine HWB.out.mono ?_
                rintro e w4 ⟨rfl, hb4, hE4⟩
                obtain ⟨hA4, he4⟩ := KEY.out 0 w4 hE4
                have HB4 := Lib.hid hb4; have HA4 := Lib.hid hA4; have HE4 := Lib.hid he4
                clear hb4 hA4 he4 hE4
                go_wp2_with fail
                have hjg := HG.out
                go_roundg (gk - 1)
                case rel => exact ⟨j + 2, _, by go_num, by omega, by omega, by simp; omega, HF, HB4, HA4, HE4⟩
                case measure => omega
              · have z48 : 57 < (s[j + 1].toNat : Int) := by omega
                clear hnd
                go_wp2_with fail
                refine HWB.out.mono ?_
                rintro e w4 ⟨rfl, hb4, hE4⟩
                obtain ⟨hA4, he4⟩ := KEY.out 0 w4 hE4
                have HB4 := Lib.hid hb4; have HA4 := Lib.hid hA4; have HE4 := Lib.hid he4
                clear hb4 hA4 he4 hE4
                go_wp2_with fail
                have hjg := HG.out
                go_roundg (gk - 1)
                case rel => exact ⟨j + 2, _, by go_num, by omega, by omega, by simp; omega, HF, HB4, HA4, HE4⟩
                case measure => omega
        · have hb92 : ((s[j].toNat : Int) == 92) = false := by rw [beq_eq_false_iff_ne]; omega
          have hn92 : ((s[j].toNat : Int) != 92) = true := by rw [bne, hb92]; rfl
          have HF := Lib.hid (loose_go (s := s.data.toList.drop j) (c := s[j]) (n := 1) HW.out (by rw [HD.out]; unfold readS.pieceS; simp only; rw [if_neg h92]))
          rw [List.drop_drop] at HF
          have HWB := Lib.hid (wb w1.heap.size w1.heap.size A s[j] wr HB.out (by omega) hsz)
          clear h92
          go_wp2_with fail
          refine HWB.out.mono ?_
          rintro e w4 ⟨rfl, hb4, hE4⟩
          obtain ⟨hA4, he4⟩ := KEY.out 0 w4 hE4
          have HB4 := Lib.hid hb4; have HA4 := Lib.hid hA4; have HE4 := Lib.hid he4
          clear hb4 hA4 he4 hE4
          go_wp2_with fail
          have hjg := HG.out
          go_roundg (gk - 1)
          case rel => exact ⟨j + 1, _, by go_num, by omega, by omega, by simp; omega, HF, HB4, HA4, HE4⟩
          case measure => omega
      · have hR := loose_end (by rw [← HW.out, drop_end s j (by omega)] : (looseS []).map (A ++ ·) = R)
        subst hR
        go_wp2_with fail
        refine (Tryz.Builder_String_any _ _ A _ HB.out (by omega)).mono ?_
        rintro e v2 ⟨rfl, hE2⟩
        obtain ⟨hA4, he4⟩ := on_below H1.out HA.out HE.out hE2
        go_wp2_with fail
        go_ret
        exact ⟨HE1.out.trans he4, rfl, hA4⟩
end Go.Proofs.YtkcpbjoolfojjaaGreatDoor.wdL
namespace Go.Proofs.YtkcpbjoolfojjaaGreatDoor.wdE
open Go.RowKit Go.Proofs.YtkcpbjoolfojjaaGreatDoor.kit Go.Proofs.YtkcpbjoolfojjaaGreatDoor.nspec Go.Proofs.YtkcpbjoolfojjaaGreatDoor.fld Go.Proofs.YtkcpbjoolfojjaaGreatDoor.bits Go.Proofs.YtkcpbjoolfojjaaGreatDoor.bld Go.Proofs.YtkcpbjoolfojjaaGreatDoor.rdP Go.Proofs.YtkcpbjoolfojjaaGreatDoor.rdQ Go.Proofs.YtkcpbjoolfojjaaGreatDoor.wd Go.Proofs.YtkcpbjoolfojjaaGreatDoor.wdA Go.Proofs.YtkcpbjoolfojjaaGreatDoor.wdB Go.Proofs.YtkcpbjoolfojjaaGreatDoor.wdC Go.Proofs.YtkcpbjoolfojjaaGreatDoor.wdD Go.Proofs.YtkcpbjoolfojjaaGreatDoor.wdL
set_option linter.unusedVariables false

theorem big_one {n : Nat} (h : n ≤ 255) : big.bigS n 1 = [UInt8.ofNat n] := by
  show [] ++ [UInt8.ofNat (n % 256)] = _
  rw [Nat.mod_eq_of_lt (by omega)]; rfl
theorem app_mk (a b : Bs) : (⟨a.toArray⟩ : ByteArray) ++ (⟨b.toArray⟩ : ByteArray) = ⟨(a ++ b).toArray⟩ := by
  apply ba_ext; simp
theorem empty_b {s : ByteArray} : s.toList.isEmpty = decide (s.data.toList = []) := by
  rw [Lib.toList_data]
  cases s.data.toList <;> simp
abbrev boxO (t : TypeId) : Obj := .cells #[] t
section
variable (C : Nat) (a : Option Addr) (L : List Wo) (cap : Nat) (O : ByteArray) (k : Nat) (w : World) (h : AtW w C a L cap O k) (org : Bs)
include h
set_option maxRecDepth 100000 in
set_option maxHeartbeats 1600000 in
theorem text_read : Calls Tryz.prog 151 #[.agg #[], .pointer (some ⟨C, 0, none⟩)] w (Post C a L cap O w (fieldR org L k .text)) := by
  have CL := Lib.hid (fun wx hx => loose_any C a L cap O k wx hx)
  have H := Lib.hid (fun o => at_alloc h o)
  unfold PostL at CL
  unfold Post fieldR looseW
  cases hk : L[k]? with
  | none =>
    rw [hk] at CL
    clear hk h
    go_enter Tryz.func151, Tryz.ntmps151
    go_wp2_with fail
    refine (CL.out _ (H.out _)).mono ?_
    rintro e w1 ⟨he, rfl⟩
    unfold faultE
    go_wp2_with fail
    exact ⟨rfl, eff_alloc _ _ _ he, rfl⟩
  | some x =>
    rw [hk] at CL
    have hxs := h.sm x (List.mem_of_getElem? hk)
    obtain ⟨s, q⟩ := x
    simp only at CL hxs ⊢
    have CB := Lib.hid (fun w => bad_is C a L cap O k 2 w)
    cases hl : looseS s.data.toList with
    | none =>
      rw [hl] at CL
      unfold lenR
      clear hk h hl
      go_enter Tryz.func151, Tryz.ntmps151
      go_wp2_with fail
      refine (CL.out _ (H.out _)).mono ?_
      rintro e w1 ⟨he, rfl⟩
      unfold faultE
      go_wp2_with fail
      exact ⟨rfl, eff_alloc _ _ _ he, rfl⟩
    | some d =>
      rw [hl] at CL
      have hdl := loose_len hl
      rw [size_len] at hdl
      obtain ⟨D, hD⟩ : ∃ D : ByteArray, (⟨d.toArray⟩ : ByteArray) = D := ⟨_, rfl⟩
      obtain ⟨n, hn⟩ : ∃ n, d.length = n := ⟨_, rfl⟩
      have hDn : D.size = n := by rw [← hD, mk_size, hn]
      simp only [hD] at CL
      by_cases hbig : 255 < n
      · have HN : Hid (lenR (some d) = none) := Lib.hid (by unfold lenR; simp only; rw [if_pos (by omega)])
        rw [HN.out]
        have hDi : 255 < (D.size : Int) := by omega
        clear hk h hl hD hn hDn
        go_enter Tryz.func151, Tryz.ntmps151
        go_wp2_with fail
        refine (CL.out _ (H.out _)).mono ?_
        rintro e w1 ⟨he, rfl, hA⟩
        have HE := Lib.hid (eff_alloc _ _ _ he)
        have HA := Lib.hid hA
        clear he hA
        go_wp2_with fail
        refine (CB.out _ HA.out).mono ?_
        rintro e w3 ⟨rfl, rfl⟩
        unfold faultE
        go_wp2_with fail
        exact ⟨rfl, HE.out, rfl⟩
      · have HN : Hid (lenR (some d) = some (UInt8.ofNat n :: d)) := Lib.hid (by unfold lenR; simp only; rw [if_neg (by omega), hn])
        rw [HN.out]
        have hDi : (D.size : Int) ≤ 255 := by omega
        have HV : Hid (((⟨(big.bigS D.size 1).toArray⟩ : ByteArray) ++ D) = ⟨(UInt8.ofNat n :: d).toArray⟩) := Lib.hid (by rw [hDn, big_one (by omega), ← hD, app_mk]; rfl)
        have CG := Lib.hid (fun (w : World) => big_any D.size 1 w (by omega) (by omega))
        obtain ⟨Z, hZ⟩ : ∃ Z : ByteArray, (⟨(big.bigS D.size 1).toArray⟩ : ByteArray) = Z := ⟨_, rfl⟩
        have hZs : Z.size ≤ 1 := by rw [← hZ, mk_size, big.bigS_len]; omega
        rw [hZ] at HV CG
        clear hk h hl hD hn hZ hbig hDn
        go_enter Tryz.func151, Tryz.ntmps151
        go_wp2_with fail
        refine (CL.out _ (H.out _)).mono ?_
        rintro e w1 ⟨he, rfl, hA⟩
        have HE := Lib.hid (eff_alloc _ _ _ he)
        have HA := Lib.hid hA
        clear he hA
        go_wp2_with fail
        refine (CG.out _).mono ?_
        rintro e w3 ⟨rfl, hB3⟩
        have HA3 := Lib.hid (HA.out.below hB3)
        have HE3 := Lib.hid (HE.out.trans (EffW.of_below hB3))
        clear hB3
        go_wp2_with fail
        go_ret
        exact ⟨HE3.out, by rw [← HV.out]; rfl, HA3.out⟩
set_option maxRecDepth 100000 in
set_option maxHeartbeats 1600000 in
theorem tail_read : Calls Tryz.prog 212 #[.agg #[], .pointer (some ⟨C, 0, none⟩)] w (Post C a L cap O w (fieldR org L k .tail)) := by
  have CL := Lib.hid (fun wx hx => loose_any C a L cap O k wx hx)
  have H := Lib.hid (fun o => at_alloc h o)
  unfold PostL at CL
  unfold Post fieldR looseW
  cases hk : L[k]? with
  | none =>
    rw [hk] at CL
    clear hk h
    go_enter Tryz.func212, Tryz.ntmps212
    go_wp2_with fail
    refine (CL.out _ (H.out _)).mono ?_
    rintro e w1 ⟨he, rfl⟩
    unfold faultE
    go_wp2_with fail
    exact ⟨rfl, eff_alloc _ _ _ he, rfl⟩
  | some x =>
    rw [hk] at CL
    obtain ⟨s, q⟩ := x
    simp only at CL ⊢
    cases hl : looseS s.data.toList with
    | none =>
      rw [hl] at CL
      simp only [id]
      clear hk h hl
      go_enter Tryz.func212, Tryz.ntmps212
      go_wp2_with fail
      refine (CL.out _ (H.out _)).mono ?_
      rintro e w1 ⟨he, rfl⟩
      unfold faultE
      go_wp2_with fail
      exact ⟨rfl, eff_alloc _ _ _ he, rfl⟩
    | some d =>
      rw [hl] at CL
      simp only [id]
      clear hk h hl
      go_enter Tryz.func212, Tryz.ntmps212
      go_wp2_with fail
      refine (CL.out _ (H.out _)).mono ?_
      rintro e w1 ⟨he, rfl, hA⟩
      have HE := Lib.hid (eff_alloc _ _ _ he)
      have HA := Lib.hid hA
      clear he hA
      go_wp2_with fail
      go_ret
      exact ⟨HE.out, rfl, HA.out⟩
set_option maxRecDepth 100000 in
set_option maxHeartbeats 1600000 in
theorem hexes_read : Calls Tryz.prog 166 #[.agg #[], .pointer (some ⟨C, 0, none⟩)] w (Post C a L cap O w (fieldR org L k .hexes)) := by
  have CR := Lib.hid (fun wx hx => rest_any C a L cap O k wx hx)
  have H := Lib.hid (fun o => at_alloc h o)
  have hrl := fun d hd => rest_len (L.drop k) k d hd (fun x hx => h.sm x (List.mem_of_mem_drop hx))
  have hfew := h.few
  unfold PostR at CR
  unfold Post fieldR restR
  cases hr : restW (L.drop k) k with
  | error j =>
    rw [hr] at CR
    clear hr h hrl
    go_enter Tryz.func166, Tryz.ntmps166
    go_wp2_with fail
    refine (CR.out _ (H.out _)).mono ?_
    rintro e w1 ⟨he, rfl⟩
    unfold faultE
    go_wp2_with fail
    exact ⟨rfl, eff_alloc _ _ _ he, rfl⟩
  | ok s =>
    rw [hr] at CR
    have hsl := hrl s hr
    rw [List.length_drop] at hsl
    have h3 : 1048576 * (L.length - k) ≤ 1048576 * 1048576 := Nat.mul_le_mul_left _ (by omega)
    obtain ⟨S, hS⟩ : ∃ S : ByteArray, (⟨s.toArray⟩ : ByteArray) = S := ⟨_, rfl⟩
    have hSd : S.data.toList = s := by rw [← hS]
    have hSs : S.size ≤ 1099511627776 := by rw [← hS, mk_size]; omega
    simp only [hS] at CR
    have CU := Lib.hid (fun w => unhex_any S w hSs)
    rw [hSd] at CU
    clear hr h hrl hsl h3 hS hSd
    simp only
    cases hu : unhexS s with
    | none =>
      rw [hu] at CU
      clear hu
      unfold two2 at CU
      unfold someR
      go_enter Tryz.func166, Tryz.ntmps166
      go_wp2_with fail
      refine (CR.out _ (H.out _)).mono ?_
      rintro e w1 ⟨he, rfl, hA⟩
      have HE := Lib.hid (eff_alloc _ _ _ he)
      clear he hA
      go_wp2_with fail
      refine (CU.out _).mono ?_
      rintro e w2 ⟨rfl, hB2⟩
      have HE2 := Lib.hid (HE.out.trans (EffW.of_below hB2))
      clear hB2
      go_wp2_with fail
      exact ⟨rfl, HE2.out, rfl⟩
    | some d =>
      rw [hu] at CU
      clear hu
      unfold two2 at CU
      obtain ⟨D, hD⟩ : ∃ D : ByteArray, (⟨d.toArray⟩ : ByteArray) = D := ⟨_, rfl⟩
      have hDd : D.data.toList = d := by rw [← hD]
      simp only [hD] at CU
      by_cases hd : d = []
      · have hem : D.toList.isEmpty = true := by rw [empty_b, hDd]; exact decide_eq_true hd
        have HN : Hid (someR (some d) = none) := Lib.hid (by unfold someR; simp only; rw [if_pos hd])
        rw [HN.out]
        clear hd hDd hD
        go_enter Tryz.func166, Tryz.ntmps166
        go_wp2_with fail
        refine (CR.out _ (H.out _)).mono ?_
        rintro e w1 ⟨he, rfl, hA⟩
        have HE := Lib.hid (eff_alloc _ _ _ he)
        clear he hA
        go_wp2_with fail
        refine (CU.out _).mono ?_
        rintro e w2 ⟨rfl, hB2⟩
        have HE2 := Lib.hid (HE.out.trans (EffW.of_below hB2))
        clear hB2
        go_wp2_with fail
        exact ⟨rfl, HE2.out, rfl⟩
      · have hem : D.toList.isEmpty = false := by rw [empty_b, hDd]; exact decide_eq_false hd
        have HN : Hid (someR (some d) = some d) := Lib.hid (by unfold someR; simp only; rw [if_neg hd])
        rw [HN.out]
        have HD := Lib.hid hD
        clear hd hDd hD
        go_enter Tryz.func166, Tryz.ntmps166
        go_wp2_with fail
        refine (CR.out _ (H.out _)).mono ?_
        rintro e w1 ⟨he, rfl, hA⟩
        have HE := Lib.hid (eff_alloc _ _ _ he)
        have HA := Lib.hid hA
        clear he hA
        go_wp2_with fail
        refine (CU.out _).mono ?_
        rintro e w2 ⟨rfl, hB2⟩
        have HE2 := Lib.hid (HE.out.trans (EffW.of_below hB2))
        have HA2 := Lib.hid (HA.out.below hB2)
        clear hB2
        go_wp2_with fail
        go_ret
        exact ⟨HE2.out, by rw [HD.out]; rfl, HA2.out⟩
end
end Go.Proofs.YtkcpbjoolfojjaaGreatDoor.wdE
