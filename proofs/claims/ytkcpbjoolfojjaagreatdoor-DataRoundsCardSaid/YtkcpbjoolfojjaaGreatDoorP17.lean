/- data.TypeOf: walk. name.Read: walk. -/
import Derived.Test.YtkcpbjoolfojjaaGreatDoorP13
import Derived.Test.YtkcpbjoolfojjaaGreatDoorP10
import Derived.Test.YtkcpbjoolfojjaaGreatDoorP14
namespace Go.Proofs.YtkcpbjoolfojjaaGreatDoor.typeofD
open Go.RowKit Go.Proofs.YtkcpbjoolfojjaaGreatDoor.kit Go.Proofs.YtkcpbjoolfojjaaGreatDoor.low Go.Proofs.YtkcpbjoolfojjaaGreatDoor.tname Go.Proofs.YtkcpbjoolfojjaaGreatDoor.cnt Go.Proofs.YtkcpbjoolfojjaaGreatDoor.typeofR Go.Proofs.YtkcpbjoolfojjaaGreatDoor.typeofP
set_option linter.unusedVariables false
abbrev Ut := List UInt8

theorem q_len : ∀ (n : Nat) (l : Ut), l.length ≤ n → (Q l).length ≤ l.length
  | _, [], _ => by rw [q_nil]; exact Nat.le_refl _
  | 0, b :: t, hn => by simp at hn
  | n + 1, b :: t, hn => by
    by_cases hb : b.toNat ≤ 126
    · rw [q_low hb]
      have := q_len n t (by simpa using hn)
      simp only [List.length_cons]; omega
    · unfold Q
      rw [Lib.mapD_step _ _ (by simp)]
      have hr : 127 ≤ (Lib.decodeL (b :: t)).1 := by
        by_cases h2 : b.toNat < 128
        · rw [Lib.decodeL_ascii b t h2]; show 127 ≤ b.toNat; omega
        · have := dl_high (b := b) (t := t) (by omega); omega
      have e : fR (((Lib.decodeL (b :: t)).1 : Nat) : Int) = 63 := by unfold fR; rw [if_pos (by omega)]
      rw [e, if_pos (by omega), enc_one (by omega) (by omega)]
      have hw := Lib.decodeL_width (b :: t)
      have := q_len n ((b :: t).drop (Lib.decodeL (b :: t)).2) (by rw [List.length_drop]; omega)
      rw [List.length_drop] at this
      unfold Q at this
      simp only [List.length_append, List.length_singleton]
      simp only [List.length_cons] at this ⊢
      omega
set_option maxRecDepth 100000 in
theorem rune_any (x : Nat) (w : World) : Calls Tryz.prog 35 #[.int .i32 (x : Int)] w fun e w' => e = .returned (.int .i32 (fR (x : Int))) ∧ Below w.heap.size w w' := by
  by_cases h : 126 < (x : Int)
  · have e : fR (x : Int) = 63 := if_pos h
    rw [e]
    go_enter Tryz.func35, Tryz.ntmps35
    go_wp2_with fail
    go_ret
    exact ⟨rfl, Below.refl _ _⟩
  · have e : fR (x : Int) = x := if_neg h
    rw [e]
    go_enter Tryz.func35, Tryz.ntmps35
    go_wp2_with fail
    go_ret
    exact ⟨rfl, Below.refl _ _⟩
theorem map_any (s : ByteArray) (w : World) (hs : s.size ≤ 1048576) (hT : Lib.Utf8Tabs 1 2 w) :
    Calls Tryz.prog 34 #[.func (.func 35) #[] #[], .string s] w fun e w' => e = .returned (.string ⟨(Q s.data.toList).toArray⟩) ∧ Below w.heap.size w w' :=
  Tryz.strings_Map_grows 35 #[] (enters_of Tryz.func35 (by kernel_rfl) rfl) fR s w (by omega) (fun W x _ _ => rune_any x W) (fun x _ => by unfold fR; split <;> omega) hT
theorem pow_below {w w' : World} (h : Lib.TabIs Tryz.prog w "internal/strconv.uint64pow10" .u64 Lib.pow10Tab) (hb : Below w.heap.size w w') : Lib.TabIs Tryz.prog w' "internal/strconv.uint64pow10" .u64 Lib.pow10Tab := by
  have hg : Tryz.prog.globalNamed "internal/strconv.uint64pow10" = some 4 := by kernel_rfl
  unfold Lib.TabIs World.var? at h ⊢
  rw [hg] at h ⊢
  simp only [Option.bind_some] at h ⊢
  have hlt : 4 < w.heap.size := by
    rcases Nat.lt_or_ge 4 w.heap.size with h' | h'
    · exact h'
    · rw [Array.getElem?_eq_none h'] at h; cases h
  rw [hb.block 4 hlt]; exact h
theorem utf_below {w w' : World} (h : Lib.Utf8Tabs 1 2 w) (hb : Below w.heap.size w w') : Lib.Utf8Tabs 1 2 w' := Utf8Tabs_below h hb
/-- none of the words ahead of t -/
def NoU (U : Ut) (t : Int) : Prop := ∀ p ∈ mnemL, p.1 < t → p.2 ≠ U
theorem NoU.step {U : Ut} {t : Int} (h : NoU U t) (hn : mnemS t ≠ U ∨ mnemS t = []) : NoU U (t + 1) := by
  intro p hp hlt e2
  by_cases e : p.1 = t
  · have h1 := mnem_all p hp
    rw [← e, h1.1] at hn
    rcases hn with h2 | h2
    · exact h2 e2
    · exact h1.2.1 h2
  · exact h p hp (by omega) e2
theorem hitU_yes {t : Int} {U : Ut} (h : mnemS t ≠ []) (he : mnemS t = U) : hitU U = some t := by
  have hm := mnem_mem h
  unfold hitU
  cases hf : mnemL.find? (fun p => p.2 == U) with
  | none => have := List.find?_eq_none.1 hf _ hm; simp [he] at this
  | some p =>
    have h2 : p.2 = U := by simpa using List.find?_some hf
    have := mnem_low p (List.mem_of_find?_eq_some hf) _ hm (by rw [h2, he])
    rw [this]; rfl
theorem hitU_no {U : Ut} (h : ∀ p ∈ mnemL, p.2 ≠ U) : hitU U = none := by
  unfold hitU
  rw [List.find?_eq_none.2 (fun p hp => by simpa using h p hp)]; rfl
set_option maxRecDepth 100000 in
set_option maxHeartbeats 4000000 in
theorem typeof_any (s : ByteArray) (w : World) (hs : s.size ≤ 1048576) (hT : Lib.Utf8Tabs 1 2 w) (hP : Lib.TabIs Tryz.prog w "internal/strconv.uint64pow10" .u64 Lib.pow10Tab) :
    Calls Tryz.prog 12 #[.string s] w fun e w' => e = .returned (.int .i64 (typeOfD s.data.toList)) ∧ Below w.heap.size w w' := by
  by_cases h10 : 10 < s.size
  · have hF : Hid (typeOfD s.data.toList = 0) := Lib.hid (by unfold typeOfD; rw [if_pos (by rw [size_len]; exact h10)])
    rw [hF.out]
    have h10i : (10 : Int) < (s.size : Int) := by omega
    go_enter Tryz.func12, Tryz.ntmps12
    go_wp2_with fail
    go_ret
    exact ⟨rfl, Below.refl _ _⟩
  have h10i : (s.size : Int) ≤ 10 := by omega
  obtain ⟨R, hR⟩ : ∃ R, typeOfD s.data.toList = R := ⟨_, rfl⟩
  rw [hR]
  have CM := Lib.hid (map_any s w hs hT)
  obtain ⟨QW, hQW⟩ : ∃ QW : ByteArray, (⟨(Q s.data.toList).toArray⟩ : ByteArray) = QW := ⟨_, rfl⟩
  have hQd : QW.data.toList = Q s.data.toList := by rw [← hQW]
  have hQs : QW.size ≤ 10 := by
    rw [← size_len, hQd]
    have := q_len _ s.data.toList (Nat.le_refl _)
    rw [size_len] at this; omega
  have CU := Lib.hid (fun w => Tryz.strings_ToUpper_ascii QW w (by omega) (fun j b hb => by
    rw [hQd] at hb
    have := q_ascii _ s.data.toList (Nat.le_refl _) b (List.mem_of_getElem? hb)
    omega))
  obtain ⟨UW, hUW⟩ : ∃ UW : ByteArray, (⟨(Lib.toUpperA QW.data.toList).toArray⟩ : ByteArray) = UW := ⟨_, rfl⟩
  obtain ⟨U, hU⟩ : ∃ U, upL (Q s.data.toList) = U := ⟨_, rfl⟩
  have hUd : UW.data.toList = U := by rw [← hUW, hQd]; exact hU
  have hUs : UW.size ≤ 10 := by
    rw [← hUW, mk_size, Lib.toUpperA, List.length_map, size_len]; exact hQs
  have HF : Hid (R = typeOfU U) := Lib.hid (by rw [← hR]; unfold typeOfD; rw [if_neg (by rw [size_len]; exact h10), hU])
  have CC := Lib.hid (fun w => Tryz.strings_CutPrefix UW ⟨#[84, 89, 80, 69]⟩ w)
  rw [hQW] at CM
  rw [hUW] at CU
  rw [hUd] at CC
  have HUD := Lib.hid hUd
  have HP := Lib.hid hP
  clear hR hQW hQd hQs hU hUW hUd hT hP h10
  go_enter Tryz.func12, Tryz.ntmps12
  go_upto_region 4 with (first | (go_at_call 34; refine CM.out.mono ?_; rintro e w1 ⟨rfl, hB1⟩) | (go_at_call 33; refine (CU.out _).mono ?_; rintro e w2 ⟨rfl, hB2⟩))
  have HB2 : Hid (Below w.heap.size w w2) := Lib.hid (hB1.trans (hB2.mono hB1.size))
  clear hB1 hB2 CM CU
  cases hp : Lib.hasPrefix U capT with
  | true =>
    obtain ⟨X4, hX4⟩ : ∃ X4 : ByteArray, (⟨(U.drop 4).toArray⟩ : ByteArray) = X4 := ⟨_, rfl⟩
    have hXd : X4.data.toList = U.drop 4 := by rw [← hX4]
    have hXs : X4.size ≤ 10 := by
      have h1 : U.length = UW.size := by rw [← HUD.out, size_len]
      rw [← hX4, mk_size, List.length_drop]; omega
    have htp : Lib.trimPrefix U capT = U.drop 4 := by unfold Lib.trimPrefix; rw [if_pos hp]; rfl
    have CC2 : Hid (∀ w, Calls Tryz.prog 36 #[.string UW, .string ⟨#[84, 89, 80, 69]⟩] w fun e w' => e = .returned (.tuple #[.string X4, .bool true]) ∧ w' = w) := Lib.hid (fun w => (CC.out w).mono (by
      rintro e w' ⟨rfl, rfl⟩
      refine ⟨?_, rfl⟩
      have h1 : Lib.trimPrefix U (⟨#[84, 89, 80, 69]⟩ : ByteArray).data.toList = U.drop 4 := htp
      have h2 : Lib.hasPrefix U (⟨#[84, 89, 80, 69]⟩ : ByteArray).data.toList = true := hp
      rw [h1, h2, hX4]))
    have CN := Lib.hid (fun w => count_any X4 5 65535 w (by unfold maxLen; omega) (by omega))
    rw [hXd] at CN
    obtain ⟨V, hV⟩ : ∃ V, countS (U.drop 4) 5 65535 = V := ⟨_, rfl⟩
    have HF2 : Hid (R = max V 0) := Lib.hid (by rw [HF.out]; unfold typeOfU; rw [if_pos hp, hV])
    rw [hV] at CN
    clear CC hp hX4 hXd hXs htp hV
    go_wp2_with (first | (go_at_call 36; refine (CC2.out _).mono ?_; rintro e w3 ⟨rfl, rfl⟩) | (go_at_call 37; refine (CN.out _).mono ?_; rintro e w4 ⟨rfl, rfl⟩))
    go_ret
    exact ⟨ret_i HF2.out.symm, HB2.out⟩
  | false =>
    have htp : Lib.trimPrefix U capT = U := by unfold Lib.trimPrefix; rw [if_neg (by rw [hp]; decide)]
    have CC2 : Hid (∀ w, Calls Tryz.prog 36 #[.string UW, .string ⟨#[84, 89, 80, 69]⟩] w fun e w' => e = .returned (.tuple #[.string UW, .bool false]) ∧ w = w') := Lib.hid (fun w => (CC.out w).mono (by
      rintro e w' ⟨rfl, rfl⟩
      refine ⟨?_, rfl⟩
      have h1 : Lib.trimPrefix U (⟨#[84, 89, 80, 69]⟩ : ByteArray).data.toList = U := htp
      have h2 : Lib.hasPrefix U (⟨#[84, 89, 80, 69]⟩ : ByteArray).data.toList = false := hp
      have h3 : (⟨U.toArray⟩ : ByteArray) = UW := ba_ext (by rw [HUD.out])
      rw [h1, h2, h3]))
    have HF2 : Hid (R = (hitU U).getD 0) := Lib.hid (by rw [HF.out]; unfold typeOfU; rw [if_neg (by rw [hp]; decide)])
    have HNP := Lib.hid hp
    clear CC hp htp
    go_wp2_with (go_at_call 36; refine (CC2.out _).mono ?_; rintro e w3 ⟨rfl, rfl⟩)
    clear CC2
    go_loopg [5] 258 (fun gas tv wr => ∃ k : Nat, tv = .int .i64 (k : Int) ∧ 1 ≤ k ∧ k + gas = 259 ∧ k ≤ 258 ∧ Hid (NoU U (k : Int)) ∧ Hid (Below w.heap.size w wr))
    case atStart => exact ⟨1, rfl, by omega, by omega, by omega, Lib.hid (fun p hp h => by have := (mnem_all p hp).2.2.1; simp at h; omega), HB2⟩
    case round =>
      obtain ⟨k, rfl, hk1, hkg, hk, HNB, HB⟩ := hrel
      have HKG := Lib.hid hkg
      clear hkg
      by_cases hlt : k < 258
      · have zl : (k : Int) ≤ 257 := by omega
        have CT := Lib.hid (dtname_any (k : Int) (by omega) (by omega) wr (pow_below HP.out HB.out))
        obtain ⟨M, hM⟩ : ∃ M : ByteArray, (⟨(tnameS (k : Int)).toArray⟩ : ByteArray) = M := ⟨_, rfl⟩
        have hMd : M.data.toList = tnameS (k : Int) := by rw [← hM]
        have hcmp := bytes_eq (a := M) (b := UW)
        rw [hMd, HUD.out] at hcmp
        rw [hM] at CT
        clear hM hMd
        by_cases hq : tnameS (k : Int) = U
        · have hb : (M.toList == UW.toList) = true := by rw [hcmp]; exact decide_eq_true hq
          have hmn : mnemS (k : Int) ≠ [] := fun e => by
            have h1 := tname_in e (by omega) (by omega)
            rw [hq] at h1
            have h2 : Lib.hasPrefix U capT = true := pre_take.2 (by rw [h1]; rfl)
            rw [HNP.out] at h2; cases h2
          have hmU : mnemS (k : Int) = U := by
            rw [← hq]
            exact (tname_yes rfl (by cases h : mnemS (k : Int) with | nil => exact absurd h hmn | cons _ _ => rfl)).symm
          have HF3 : Hid (R = (k : Int)) := Lib.hid (by rw [HF2.out, hitU_yes hmn hmU]; rfl)
          clear hcmp hq hmn hmU
          go_wp2_with (go_at_call 13; refine CT.out.mono ?_; rintro e w4 ⟨rfl, hB4⟩)
          go_ret
          exact ⟨ret_i HF3.out.symm, HB.out.trans (hB4.mono HB.out.size)⟩
        · have hb : (M.toList == UW.toList) = false := by rw [hcmp]; exact decide_eq_false hq
          have HN2 := Lib.hid (HNB.out.step (by
            by_cases he : mnemS (k : Int) = []
            · exact .inr he
            · refine .inl fun e => hq ?_
              rw [← e]
              exact tname_yes rfl (by cases h : mnemS (k : Int) with | nil => exact absurd h he | cons _ _ => rfl)))
          clear hcmp hq
          go_wp2_with (go_at_call 13; refine CT.out.mono ?_; rintro e w4 ⟨rfl, hB4⟩)
          have hkg := HKG.out
          go_roundg (gk - 1)
          case rel => exact ⟨k + 1, by go_num, by omega, by omega, by omega, HN2, Lib.hid (HB.out.trans (hB4.mono HB.out.size))⟩
          case measure => omega
      · have hk3 : k = 258 := by omega
        have HF3 : Hid (R = 0) := Lib.hid (by
          rw [HF2.out, hitU_no (fun p hp => HNB.out p hp (by have := (mnem_all p hp).2.2.2; omega))]; rfl)
        clear hlt
        subst hk3
        go_wp2_with fail
        go_ret
        exact ⟨ret_i HF3.out.symm, HB.out⟩
end Go.Proofs.YtkcpbjoolfojjaaGreatDoor.typeofD
namespace Go.Proofs.YtkcpbjoolfojjaaGreatDoor.nread
open Go.RowKit Go.Proofs.YtkcpbjoolfojjaaGreatDoor.kit Go.Proofs.YtkcpbjoolfojjaaGreatDoor.check Go.Proofs.YtkcpbjoolfojjaaGreatDoor.nspec Go.Proofs.YtkcpbjoolfojjaaGreatDoor.rsplit Go.Proofs.YtkcpbjoolfojjaaGreatDoor.rput Go.Proofs.YtkcpbjoolfojjaaGreatDoor.bld Go.Proofs.YtkcpbjoolfojjaaGreatDoor.coded Go.Proofs.YtkcpbjoolfojjaaGreatDoor.readS Go.Proofs.YtkcpbjoolfojjaaGreatDoor.escaped Go.Proofs.YtkcpbjoolfojjaaGreatDoor.reader
set_option linter.unusedVariables false

set_option maxRecDepth 100000 in
set_option maxHeartbeats 400000 in
theorem clone_any (s : ByteArray) (w : World) (hs : s.size ≤ 1099511627776) :
    Calls Tryz.prog 145 #[.string s] w fun e w' => e = .returned (.string s) ∧ Below w.heap.size w w' := by
  go_enter Tryz.func145, Tryz.ntmps145
  go_wp2_with fail
  refine (Tryz.stringslite_Clone s _ (by omega)).mono ?_
  rintro e w1 ⟨rfl, hB1⟩
  go_wp2
  go_ret
  exact ⟨rfl, hB1⟩

theorem flat_pos (l : List Bs) (now : Bs) : flat (l ++ [now]) = flat l ++ (UInt8.ofNat now.length :: now) := flat_snoc l now
theorem room_snoc (l : List Bs) (x : Bs) : room (l ++ [x]) = room l + (x.length + 1) := by rw [room_append]; simp [room]

set_option maxRecDepth 100000 in
set_option maxHeartbeats 4000000 in
theorem nread_any (text origin : ByteArray) (w : World) (ht : text.size ≤ 1099511600000) (ho : origin.size ≤ 1099511627776) :
    Calls Tryz.prog 143 #[.string text, .string origin] w fun e w' => e = Ret3 (readS text.data.toList origin.data.toList) ∧ Below w.heap.size w w' := by
  obtain ⟨R, HR⟩ : ∃ R, Hid (readS text.data.toList origin.data.toList = R) := ⟨_, Lib.hid rfl⟩
  rw [HR.out]
  rcases isB_or origin with ⟨base, hN⟩ | hN
  · have HO := Lib.hid hN
    have HK := Lib.hid (chk_yes hN)
    have hos : origin.size ≤ 255 := by have := hN.2.2; rwa [size_len] at this
    have HRE : Hid ((if text.data.toList = [] then ([], 0, 2) else if text.data.toList = [64] then (origin.data.toList, 0, 0) else if text.data.toList = [46] then ([0], 0, 0) else resS base (rd [] [] 0 0 text.data.toList)) = R) := Lib.hid (by
      rw [← HR.out]; unfold readS; rw [split_iff.2 hN])
    clear hN
    by_cases h0 : text.toList.isEmpty = true
    · have HRR : Hid (R = ([], 0, 2)) := Lib.hid (by
        rw [← HRE.out, if_pos (by rw [← Lib.toList_data]; simpa using h0)])
      go_enter Tryz.func143, Tryz.ntmps143
      go_wp2_with fail
      refine (check_any origin _ (by omega)).mono ?_
      rintro e w1 ⟨rfl, hB1⟩
      rw [HK.out]
      go_wp2
      go_ret3
      exact ⟨by rw [HRR.out]; rfl, hB1⟩
    · have h0' : text.toList.isEmpty = false := by simpa using h0
      clear h0
      have hne : text.data.toList ≠ [] := by rw [← Lib.toList_data]; simpa using h0'
      by_cases h64 : (text.toList == [64]) = true
      · have HRR : Hid (R = (origin.data.toList, 0, 0)) := Lib.hid (by
          rw [← HRE.out, if_neg hne, if_pos (by rw [← Lib.toList_data]; simpa using h64)])
        clear hne
        go_enter Tryz.func143, Tryz.ntmps143
        go_wp2_with fail
        refine (check_any origin _ (by omega)).mono ?_
        rintro e w1 ⟨rfl, hB1⟩
        rw [HK.out]
        go_wp2_with fail
        refine (clone_any origin _ (by omega)).mono ?_
        rintro e w2 ⟨rfl, hB2⟩
        go_wp2
        go_ret3
        exact ⟨by rw [HRR.out]; rfl, hB1.trans (hB2.mono hB1.size)⟩
      · have h64' : (text.toList == [64]) = false := by simpa using h64
        clear h64
        have hne64 : text.data.toList ≠ [64] := by rw [← Lib.toList_data]; simpa using h64'
        by_cases h46 : (text.toList == [46]) = true
        · have HRR : Hid (R = ([0], 0, 0)) := Lib.hid (by
            rw [← HRE.out, if_neg hne, if_neg hne64, if_pos (by rw [← Lib.toList_data]; simpa using h46)])
          clear hne hne64
          go_enter Tryz.func143, Tryz.ntmps143
          go_wp2_with fail
          refine (check_any origin _ (by omega)).mono ?_
          rintro e w1 ⟨rfl, hB1⟩
          rw [HK.out]
          go_wp2
          go_ret3
          exact ⟨by rw [HRR.out]; rfl, hB1⟩
        · have h46' : (text.toList == [46]) = false := by simpa using h46
          clear h46
          have hne46 : text.data.toList ≠ [46] := by rw [← Lib.toList_data]; simpa using h46'
          have HP : Hid (resS base (rd [] [] 0 0 (text.data.toList.drop 0)) = R) := Lib.hid (by
            rw [← HRE.out, if_neg hne, if_neg hne64, if_neg hne46]; rfl)
          clear hne hne64 hne46
          go_enter Tryz.func143, Tryz.ntmps143
          go_wp2_with fail
          refine (check_any origin _ (by omega)).mono ?_
          rintro e w1 ⟨rfl, hB1⟩
          rw [HK.out]
          have hz1 := hB1.size
          have HF := Lib.hid (Rdr.fresh w1)
          have HBF : Hid (Below w.heap.size w ((w1.alloc (.cells #[.int .u8 0] 5)).alloc (.cells #[.slice (some ⟨w1.heap.size, 0, none⟩) 1 1, .int .i64 0] 181))) := Lib.hid ((hB1.alloc hz1 _).alloc (by rw [World.size_alloc]; omega) _)
          go_wp2
          obtain ⟨w2, hw2⟩ : ∃ w2, (w1.alloc (.cells #[.int .u8 0] 5)).alloc (.cells #[.slice (some ⟨w1.heap.size, 0, none⟩) 1 1, .int .i64 0] 181) = w2 := ⟨_, rfl⟩
          rw [hw2] at HF HBF ⊢
          obtain ⟨b, hb⟩ : ∃ b, w1.heap.size + 1 = b := ⟨_, rfl⟩
          obtain ⟨B, hBB⟩ : ∃ B, w1.heap.size = B := ⟨_, rfl⟩
          rw [hb] at HF ⊢
          rw [hBB] at HF hz1
          clear hw2 hb hBB hB1
          go_loopg [8, 9, 10, 11] (text.size + 1) (fun gas fv kv _ _ wr => ∃ (k first : Nat) (l : List Bs) (now : Bs), kv = .int .i64 k ∧ fv = .int .i64 first ∧ k ≤ text.size ∧ k < text.size + gas ∧ text.size < k + gas ∧ now.length ≤ 63 ∧ Hid (room l + now.length ≤ k) ∧ Hid (resS base (rd l now first k (text.data.toList.drop k)) = R) ∧ Hid (Rdr B b (flat l ++ 0 :: now) (flat l).length wr) ∧ Below w.heap.size w wr)
          case atStart => exact ⟨0, 0, [], [], rfl, rfl, by omega, by omega, by omega, by simp, Lib.hid (by simp [room]), HP, HF, HBF.out⟩
          case round =>
            clear HF HBF HP
            obtain ⟨k, first, l, now, rfl, rfl, hk, hkg1, hkg2, hn63, HRM, HP, HF, hB⟩ := hrel
            have HK2 := Lib.hid (And.intro hkg1 hkg2); clear hkg1 hkg2
            have hsz := hB.size
            have hfl : (flat l).length + now.length ≤ 1099511600000 := by have := HRM.out; rw [flat_length]; omega
            by_cases hlt : k < text.size
            · obtain ⟨c, hc⟩ : ∃ c, text[k] = c := ⟨_, rfl⟩
              have HDR : Hid (text.data.toList.drop k = c :: text.data.toList.drop (k + 1)) := Lib.hid (by rw [drop_cons text k hlt, hc])
              have hc256 := byte_lt c
              by_cases hdot : c.toNat = 46
              · have hdotb : ((c.toNat : Int) == 46) = true := by rw [beq_iff_eq]; omega
                by_cases hnow : now = []
                · subst hnow
                  have HN : Hid (R = ([], (k : Int), 2)) := Lib.hid (by rw [← HP.out, HDR.out, rd_dot_no hdot rfl]; rfl)
                  have HC := Lib.hid (end_no B b (flat l).length (flat l ++ [0]) wr HF.out (by rw [List.length_append]; simp; omega) (by simp))
                  clear hdot
                  go_wp2_with fail
                  refine HC.out.mono ?_
                  rintro e w3 ⟨rfl, n, rfl⟩
                  go_wp2
                  go_ret3
                  exact ⟨by rw [HN.out]; rfl, hB.trans (reader.below_drewN _ _ _)⟩
                · have hpos : 1 ≤ now.length := List.length_pos_iff.2 hnow
                  have HP2 : Hid (resS base (rd (l ++ [now]) [] (k + 1) (k + 1) (text.data.toList.drop (k + 1))) = R) := Lib.hid (by rw [← HP.out, HDR.out, rd_dot hdot hnow])
                  have HC := Lib.hid (end_yes B b (flat l) now 0 wr HF.out (by omega) hpos hn63)
                  clear hdot hnow
                  go_wp2_with fail
                  refine HC.out.mono ?_
                  rintro e w3 ⟨rfl, hR3, hB3⟩
                  rw [← flat_pos] at hR3
                  have HR3 := Lib.hid hR3; clear hR3
                  go_wp2
                  have hkg := HK2.out
                  have hrm := HRM.out
                  go_roundg (gk - 1)
                  case rel => exact ⟨k + 1, k + 1, l ++ [now], [], by go_num, by go_num, by omega, by omega, by omega, by simp, Lib.hid (by rw [room_snoc]; simp; omega), HP2, HR3, hB.trans (hB3.mono (by omega))⟩
                  case measure => omega
              · have hdotb : ((c.toNat : Int) == 46) = false := by rw [beq_eq_false_iff_ne]; omega
                by_cases h92 : c.toNat = 92
                · have h92b : ((c.toNat : Int) == 92) = true := by rw [beq_iff_eq]; omega
                  have HPE : Hid (pieceS (c :: text.data.toList.drop (k + 1)) = escS (text.data.toList.drop (k + 1))) := Lib.hid (by simp [pieceS, h92])
                  clear h92
                  go_wp2_with fail
                  refine (escaped_any text k _ (by omega) hlt).mono ?_
                  rintro e w3' ⟨rfl, hB3'⟩
                  have hBx := hB.trans (hB3'.mono hsz)
                  have HF3 : Hid (Rdr B b (flat l ++ 0 :: now) (flat l).length w3') := Lib.hid (HF.out.below hB3')
                  obtain ⟨E, hE⟩ : ∃ E, escS (text.data.toList.drop (k + 1)) = E := ⟨_, rfl⟩
                  rw [hE] at HPE ⊢
                  clear hE hc
                  match E, HPE with
                  | none, HPE =>
                    have HN : Hid (R = ([], (k : Int), 2)) := Lib.hid (by rw [← HP.out, HDR.out, rd_bad hdot HPE.out]; rfl)
                    unfold retE
                    clear hdot
                    go_wp2
                    go_ret3
                    exact ⟨by rw [HN.out]; rfl, hBx⟩
                  | some (b', n'), HPE =>
                    have hpc := HPE.out
                    have hnl := piece_len hpc
                    have hnr : n' ≤ text.size - k := by have := hnl.2; rw [← HDR.out, List.length_drop, size_len] at this; exact this
                    have hn1 := hnl.1
                    have hn0 : ((n' : Int) == 0) = false := by rw [beq_eq_false_iff_ne]; omega
                    have hnk : (n' : Int) + (k : Int) ≤ (text.size : Int) := by omega
                    clear hnl
                    unfold retE
                    have HRF : Hid (Rdr B b (flat l ++ 0 :: now) (flat l).length w3') := HF3
                    by_cases hfull : 63 ≤ now.length
                    · have HN : Hid (R = ([], (first : Int), 3)) := Lib.hid (by rw [← HP.out, HDR.out, rd_full hdot hpc hfull]; rfl)
                      have HC := Lib.hid (add_no B b (flat l).length (flat l ++ 0 :: now) b' w3' HRF.out (by rw [List.length_append, List.length_cons]; omega) (by rw [List.length_append, List.length_cons]; omega))
                      clear hdot hpc
                      go_wp2_with fail
                      refine HC.out.mono ?_
                      rintro e w3 ⟨rfl, hR3, hB3⟩
                      go_wp2
                      go_ret3
                      exact ⟨by rw [HN.out]; rfl, hBx.trans (hB3.mono (by omega))⟩
                    · have HP2 : Hid (resS base (rd l (now ++ [b']) first (k + n') (text.data.toList.drop (k + n'))) = R) := Lib.hid (by
                        rw [← HP.out, HDR.out, rd_go hdot hpc (by omega), ← HDR.out, List.drop_drop])
                      have HC := Lib.hid (add_yes B b (flat l).length (flat l ++ 0 :: now) b' w3' HRF.out (by rw [List.length_append, List.length_cons]; omega) (by rw [List.length_append, List.length_cons]; omega) (by rw [List.length_append, List.length_cons]; omega))
                      clear hdot hpc
                      go_wp2_with fail
                      refine HC.out.mono ?_
                      rintro e w3 ⟨rfl, hR3, hB3⟩
                      have HR3 : Hid (Rdr B b (flat l ++ 0 :: (now ++ [b'])) (flat l).length w3) := Lib.hid (by simpa only [List.append_assoc, List.cons_append] using hR3)
                      clear hR3
                      go_wp2
                      have hkg := HK2.out
                      have hrm := HRM.out
                      go_roundg (gk - 1)
                      case rel => exact ⟨k + n', first, l, now ++ [b'], by go_num, rfl, by omega, by omega, by omega, by rw [List.length_append, List.length_singleton]; omega, Lib.hid (by rw [List.length_append, List.length_singleton]; omega), HP2, HR3, hBx.trans (hB3.mono (by omega))⟩
                      case measure => omega
                · have h92b : ((c.toNat : Int) == 92) = false := by rw [beq_eq_false_iff_ne]; omega
                  have hpc : pieceS (c :: text.data.toList.drop (k + 1)) = some (c, 1) := by simp [pieceS, h92]
                  have HRF : Hid (Rdr B b (flat l ++ 0 :: now) (flat l).length wr) := HF
                  by_cases hfull : 63 ≤ now.length
                  · have HN : Hid (R = ([], (first : Int), 3)) := Lib.hid (by rw [← HP.out, HDR.out, rd_full hdot hpc hfull]; rfl)
                    have HC := Lib.hid (add_no B b (flat l).length (flat l ++ 0 :: now) c wr HRF.out (by rw [List.length_append, List.length_cons]; omega) (by rw [List.length_append, List.length_cons]; omega))
                    clear hdot h92 hpc
                    go_wp2_with fail
                    refine HC.out.mono ?_
                    rintro e w3 ⟨rfl, hR3, hB3⟩
                    go_wp2
                    go_ret3
                    exact ⟨by rw [HN.out]; rfl, hB.trans (hB3.mono (by omega))⟩
                  · have HP2 : Hid (resS base (rd l (now ++ [c]) first (k + 1) (text.data.toList.drop (k + 1))) = R) := Lib.hid (by
                      rw [← HP.out, HDR.out, rd_go hdot hpc (by omega), ← HDR.out, List.drop_drop])
                    have HC := Lib.hid (add_yes B b (flat l).length (flat l ++ 0 :: now) c wr HRF.out (by rw [List.length_append, List.length_cons]; omega) (by rw [List.length_append, List.length_cons]; omega) (by rw [List.length_append, List.length_cons]; omega))
                    clear hdot h92 hpc
                    go_wp2_with fail
                    refine HC.out.mono ?_
                    rintro e w3 ⟨rfl, hR3, hB3⟩
                    have HR3 : Hid (Rdr B b (flat l ++ 0 :: (now ++ [c])) (flat l).length w3) := Lib.hid (by simpa only [List.append_assoc, List.cons_append] using hR3)
                    clear hR3
                    go_wp2
                    have hkg := HK2.out
                    have hrm := HRM.out
                    go_roundg (gk - 1)
                    case rel => exact ⟨k + 1, first, l, now ++ [c], by go_num, rfl, by omega, by omega, by omega, by rw [List.length_append, List.length_singleton]; omega, Lib.hid (by rw [List.length_append, List.length_singleton]; omega), HP2, HR3, hB.trans (hB3.mono (by omega))⟩
                    case measure => omega
            · have hkk : text.data.toList.drop k = [] := drop_end text k (by omega)
              have HN : Hid (finS base l now = R) := Lib.hid (by rw [← HP.out, hkk, rd_nil]; rfl)
              clear hkk
              obtain ⟨i0, hi, hz0, hzz1, hz2⟩ := info_parts infoByte
              obtain ⟨hBb, g, cap, hbk, hown, hne⟩ := HF.out
              have c0 : wr.cell? ⟨b, 0, none⟩ = some (.slice (some ⟨g, 0, none⟩) (flat l ++ 0 :: now).length cap) := by rw [Lib.cell_of_heap hbk]; rfl
              have c1 : wr.cell? ⟨b, 1, none⟩ = some (.int .i64 ((flat l).length : Int)) := by rw [Lib.cell_of_heap hbk]; rfl
              have hcut := own_cut hown
              have hcl : (flat l).length ≤ cap := by
                rcases hcut.2 with ⟨h0, _⟩ | ⟨g', cap', cur, h1, h2, h3, h4, _⟩
                · cases h0
                · cases h1; exact h4
              have HBK := Lib.hid hbk; clear hbk
              have HOW := Lib.hid hown; clear hown
              obtain ⟨F, hF⟩ : ∃ F, flat l = F := ⟨_, rfl⟩
              have hFr : F.length = room l := by rw [← hF, flat_length]
              rw [hF] at c0 c1 hcut hcl hfl HBK HOW HF
              have HFF := Lib.hid hF; clear hF
              obtain ⟨st, hst⟩ : ∃ st, F.length = st := ⟨_, rfl⟩
              rw [hst] at c1 hcl hfl hcut
              obtain ⟨m, hm⟩ : ∃ m, (F ++ 0 :: now).length = m := ⟨_, rfl⟩
              rw [hm] at c0
              have hms : m = st + 1 + now.length := by rw [← hm, ← hst, List.length_append, List.length_cons]; omega
              have HST := Lib.hid hst
              have HMS := Lib.hid hms
              have HFR : Hid (st = room l) := Lib.hid (by rw [← hst]; exact hFr)
              by_cases hnow : now = []
              · subst hnow
                have HC := Lib.hid (end_no B b F.length (F ++ [0]) wr HF.out (by rw [List.length_append]; simp; omega) (by simp))
                clear hms hst hm hFr
                go_wp2_with fail
                refine HC.out.mono ?_
                rintro e w3 ⟨rfl, n, rfl⟩
                clear c0 c1
                obtain ⟨w4, hw4⟩ : ∃ w4, wr.drewN n = w4 := ⟨_, rfl⟩
                have hcut4 : w4.ownsRow B 5 1 (.slice (some ⟨g, 0, none⟩) st cap) st (Lib.byteCells F) := by rw [← hw4]; exact hcut
                have hB4 : Below w.heap.size w w4 := by rw [← hw4]; exact hB.trans (reader.below_drewN _ _ _)
                have hz4 : B ≤ w4.heap.size := by have h5 := (hcut4.lt g rfl); omega
                rw [hw4]
                clear hw4 hcut
                go_wp2_with (at_builtin; refine wpList_append_own _ rfl _ _ 50 rfl B 5 i0 (.int .u8 0) 1 1 Tryz.underlying50 hi hz0 hzz1 hz2 rfl (by decide) _ _ _ rfl (hcut4.alloc _) ⟨w4.heap.size, 0, none⟩ 1 1 [.int .u8 0] rfl rfl ?c1 ?c2 ?c3 ?c4 ?c5 ?_)
                case c1 => exact cell_one_new _ _ _
                case c2 => simp [Value.oneCell']
                case c3 => unfold maxLen; omega
                case c4 => omega
                case c5 => simp; omega
                intro v5 w5 hown5 hgrow5 _
                rw [show Lib.byteCells F ++ [.int .u8 0] = Lib.byteCells (F ++ [0]) from (bytes_snoc _ 0).symm] at hown5
                have hB5 : Below w.heap.size w w5 := (hB4.alloc (by omega) _).grown hgrow5 (by simp; omega) (fun k hk => by have := (hcut4.lt k hk).1; omega)
                have hlen5 : st + 1 = (F ++ [0]).length := by rw [List.length_append, HST.out]; rfl
                have hput5 : put (endL base l []) = F ++ [0] := by rw [← HFF.out]; exact put_flat l
                obtain ⟨g5, cap5, rfl⟩ : ∃ g cap, v5 = .slice (some ⟨g, 0, none⟩) (st + 1) cap := by
                  rcases hown5.2 with ⟨_, h0⟩ | ⟨g, cap, cur, hv, _⟩
                  · omega
                  · exact ⟨g, cap, hv⟩
                have hst5 := own_string (P := Tryz.prog) (l := (F ++ [0])) (v := .slice (some ⟨g5, 0, none⟩) (st + 1) cap5) (by rw [← hlen5]; exact hown5) 50 9 5 Tryz.underlying50 Tryz.underlying5 Tryz.underlying9
                have HS5 := Lib.hid hst5
                have HEND : Hid (R = if 254 < room (endL base l []) then ([], 0, 4) else ((F ++ [0]), 0, 0)) := Lib.hid (by rw [← HN.out]; unfold finS; rw [hput5])
                have HRO : Hid ((st + 1) = room (endL base l []) + 1) := Lib.hid (by rw [hlen5, ← hput5, put_length])
                clear hown5 hgrow5 hst5 hlen5 hput5
                by_cases hbig : 255 < (st + 1)
                · have hbigi : (255 : Int) < ((st : Int) + 1 : Int) := by omega
                  have HN2 : Hid (R = ([], 0, 4)) := Lib.hid (by rw [HEND.out, if_pos (by have := HRO.out; omega)])
                  go_wp2
                  go_ret3
                  exact ⟨by rw [HN2.out]; rfl, hB5⟩
                · have hbigi : ((st : Int) + 1 : Int) ≤ 255 := by omega
                  have HN2 : Hid (R = ((F ++ [0]), 0, 0)) := Lib.hid (by rw [HEND.out, if_neg (by have := HRO.out; omega)])
                  have hst5 := HS5.out
                  go_wp2
                  go_ret3
                  exact ⟨by rw [HN2.out]; rfl, hB5⟩
              · have hpos : 1 ≤ now.length := List.length_pos_iff.2 hnow
                have HC := Lib.hid (end_yes B b F now 0 wr HF.out (by omega) hpos hn63)
                clear hms hm hcut
                go_wp2_with fail
                refine HC.out.mono ?_
                rintro e w3 ⟨rfl, hR3, hB3⟩
                obtain ⟨F2, hF2⟩ : ∃ F2, F ++ (UInt8.ofNat now.length :: now) = F2 := ⟨_, rfl⟩
                rw [hF2] at hR3
                have hF2f : F2 = flat (l ++ [now]) := by rw [flat_pos, HFF.out, hF2]
                have hF2l : F2.length = st + 1 + now.length := by rw [← hF2, List.length_append, List.length_cons, hst]; omega
                obtain ⟨s2, hs2⟩ : ∃ s2, F2.length = s2 := ⟨_, rfl⟩
                have hz3 : B ≤ w3.heap.size := by have := hR3.lt; omega
                have hBx := hB.trans (hB3.mono (by omega))
                obtain ⟨_, g3, cap3, hbk3, hown3, hne3⟩ := hR3
                have hcut3 := own_cut hown3
                have hcl3 : F2.length ≤ cap3 := by
                  rcases hcut3.2 with ⟨h0, _⟩ | ⟨g', cap', cur, h1, h2, h3, h4, _⟩
                  · cases h0
                  · cases h1; exact h4
                have d0 : w3.cell? ⟨b, 0, none⟩ = some (.slice (some ⟨g3, 0, none⟩) (F2 ++ [0]).length cap3) := by rw [Lib.cell_of_heap hbk3]; rfl
                have d1 : w3.cell? ⟨b, 1, none⟩ = some (.int .i64 (F2.length : Int)) := by rw [Lib.cell_of_heap hbk3]; rfl
                rw [hs2] at d1 hcut3 hcl3 hF2l
                obtain ⟨m2, hm2⟩ : ∃ m2, (F2 ++ [0]).length = m2 := ⟨_, rfl⟩
                rw [hm2] at d0
                have hs2b : s2 ≤ 1099511600100 := by omega
                have HS2 := Lib.hid hs2
                have HF2 := Lib.hid hF2f
                clear c0 c1 hbk3 hown3 hm2 hs2 hF2f hF2 hF2l hFr hnow
                go_wp2_with (at_builtin; refine Lib.wpList_append_own_string _ rfl _ _ 50 9 rfl B 5 i0 Tryz.underlying50 Tryz.underlying9 hi hz0 hzz1 hz2 _ _ _ rfl hcut3 origin rfl ?c3 ?c4 ?c5 ?_)
                case c3 => unfold maxLen; omega
                case c4 => omega
                case c5 => omega
                intro v5 w5 hown5 hgrow5 _
                rw [← bytes_app] at hown5
                have hB5 : Below w.heap.size w w5 := hBx.grown hgrow5 (by omega) (fun k hk => by have := (hcut3.lt k hk).1; omega)
                have hlen5 : s2 + origin.size = (F2 ++ origin.data.toList).length := by rw [List.length_append, HS2.out, size_len]
                have hnow : now ≠ [] := List.length_pos_iff.1 hpos
                have hput5 : put (endL base l now) = F2 ++ origin.data.toList := by rw [endL, if_neg hnow, put_append, HF2.out, HO.out.1]; rfl
                have hob : 1 ≤ origin.size := by rw [← size_len, HO.out.1]; exact put_pos base
                clear hnow
                obtain ⟨g5, cap5, rfl⟩ : ∃ g cap, v5 = .slice (some ⟨g, 0, none⟩) (s2 + origin.size) cap := by
                  rcases hown5.2 with ⟨_, h0⟩ | ⟨g, cap, cur, hv, _⟩
                  · omega
                  · exact ⟨g, cap, hv⟩
                have hst5 := own_string (P := Tryz.prog) (l := (F2 ++ origin.data.toList)) (v := .slice (some ⟨g5, 0, none⟩) (s2 + origin.size) cap5) (by rw [← hlen5]; exact hown5) 50 9 5 Tryz.underlying50 Tryz.underlying5 Tryz.underlying9
                have HS5 := Lib.hid hst5
                have HEND : Hid (R = if 254 < room (endL base l now) then ([], 0, 4) else ((F2 ++ origin.data.toList), 0, 0)) := Lib.hid (by rw [← HN.out]; unfold finS; rw [hput5])
                have HRO : Hid ((s2 + origin.size) = room (endL base l now) + 1) := Lib.hid (by rw [hlen5, ← hput5, put_length])
                clear hown5 hgrow5 hst5 hlen5 hput5
                by_cases hbig : 255 < (s2 + origin.size)
                · have hbigi : (255 : Int) < (((s2 + origin.size : Nat) : Int) : Int) := by omega
                  have HN2 : Hid (R = ([], 0, 4)) := Lib.hid (by rw [HEND.out, if_pos (by have := HRO.out; omega)])
                  go_wp2
                  go_ret3
                  exact ⟨by rw [HN2.out]; rfl, hB5⟩
                · have hbigi : (((s2 + origin.size : Nat) : Int) : Int) ≤ 255 := by omega
                  have HN2 : Hid (R = ((F2 ++ origin.data.toList), 0, 0)) := Lib.hid (by rw [HEND.out, if_neg (by have := HRO.out; omega)])
                  have hst5 := HS5.out
                  go_wp2
                  go_ret3
                  exact ⟨by rw [HN2.out]; rfl, hB5⟩
  · have HRR : Hid (R = ([], 0, 1)) := Lib.hid (by rw [← HR.out]; unfold readS; rw [hN])
    have HK := Lib.hid (chk_no hN)
    clear hN
    go_enter Tryz.func143, Tryz.ntmps143
    go_wp2_with fail
    refine (check_any origin _ (by omega)).mono ?_
    rintro e w1 ⟨rfl, hB1⟩
    rw [HK.out]
    go_wp2
    go_ret3
    exact ⟨by rw [HRR.out]; rfl, hB1⟩
end Go.Proofs.YtkcpbjoolfojjaaGreatDoor.nread
