/- data.TypeOf: walk. -/
import Derived.Test.YtjejmgdpjfdhjaaDoorTypeOfP
namespace Go.Proofs.YtjejmgdpjfdhjaaDoor.typeofD
open Go.RowKit Go.Proofs.YtjejmgdpjfdhjaaDoor.kit Go.Proofs.YtjejmgdpjfdhjaaDoor.low Go.Proofs.YtjejmgdpjfdhjaaDoor.tname Go.Proofs.YtjejmgdpjfdhjaaDoor.cnt Go.Proofs.YtjejmgdpjfdhjaaDoor.typeofR Go.Proofs.YtjejmgdpjfdhjaaDoor.typeofP
set_option linter.unusedVariables false
abbrev Ut := List UInt8

theorem q_len : ∀ (n : Nat) (l : Ut), l.length ≤ n → (Q l).length ≤ l.length
  | _, [], _ => by rw [q_nil]; exact Nat.le_refl _
  | 0, b :: t, hn => by simp at hn
  | n + 1, b :: t, hn => by
    by_cases hb : b.toNat ≤ 126
    · rw [q_low hb]
      have := q_len n t (by simpa using hn)
      simp only [List.length_cons]; omega
    · unfold Q
      rw [Lib.mapD_step _ _ (by simp)]
      have hr : 127 ≤ (Lib.decodeL (b :: t)).1 := by
        by_cases h2 : b.toNat < 128
        · rw [Lib.decodeL_ascii b t h2]; show 127 ≤ b.toNat; omega
        · have := dl_high (b := b) (t := t) (by omega); omega
      have e : fR (((Lib.decodeL (b :: t)).1 : Nat) : Int) = 63 := by unfold fR; rw [if_pos (by omega)]
      rw [e, if_pos (by omega), enc_one (by omega) (by omega)]
      have hw := Lib.decodeL_width (b :: t)
      have := q_len n ((b :: t).drop (Lib.decodeL (b :: t)).2) (by rw [List.length_drop]; omega)
      rw [List.length_drop] at this
      unfold Q at this
      simp only [List.length_append, List.length_singleton]
      simp only [List.length_cons] at this ⊢
      omega
set_option maxRecDepth 100000 in
theorem rune_any (x : Nat) (w : World) : Calls Tryd.prog 18 #[.int .i32 (x : Int)] w fun e w' => e = .returned (.int .i32 (fR (x : Int))) ∧ Below w.heap.size w w' := by
  by_cases h : 126 < (x : Int)
  · have e : fR (x : Int) = 63 := if_pos h
    rw [e]
    go_enter Tryd.func18, Tryd.ntmps18
    go_wp2_with fail
    go_ret
    exact ⟨rfl, Below.refl _ _⟩
  · have e : fR (x : Int) = x := if_neg h
    rw [e]
    go_enter Tryd.func18, Tryd.ntmps18
    go_wp2_with fail
    go_ret
    exact ⟨rfl, Below.refl _ _⟩
theorem map_any (s : ByteArray) (w : World) (hs : s.size ≤ 1048576) (hT : Lib.Utf8Tabs 1 2 w) :
    Calls Tryd.prog 17 #[.func (.func 18) #[] #[], .string s] w fun e w' => e = .returned (.string ⟨(Q s.data.toList).toArray⟩) ∧ Below w.heap.size w w' :=
  Tryd.strings_Map_grows 18 #[] (enters_of Tryd.func18 (by kernel_rfl) rfl) fR s w (by omega) (fun W x _ _ => rune_any x W) (fun x _ => by unfold fR; split <;> omega) hT
theorem pow_below {w w' : World} (h : Lib.TabIs Tryd.prog w "internal/strconv.uint64pow10" .u64 Lib.pow10Tab) (hb : Below w.heap.size w w') : Lib.TabIs Tryd.prog w' "internal/strconv.uint64pow10" .u64 Lib.pow10Tab := by
  have hg : Tryd.prog.globalNamed "internal/strconv.uint64pow10" = some 4 := by kernel_rfl
  unfold Lib.TabIs World.var? at h ⊢
  rw [hg] at h ⊢
  simp only [Option.bind_some] at h ⊢
  have hlt : 4 < w.heap.size := by
    rcases Nat.lt_or_ge 4 w.heap.size with h' | h'
    · exact h'
    · rw [Array.getElem?_eq_none h'] at h; cases h
  rw [hb.block 4 hlt]; exact h
theorem utf_below {w w' : World} (h : Lib.Utf8Tabs 1 2 w) (hb : Below w.heap.size w w') : Lib.Utf8Tabs 1 2 w' := Utf8Tabs_below h hb
/-- none of the words ahead of t -/
def NoU (U : Ut) (t : Int) : Prop := ∀ p ∈ mnemL, p.1 < t → p.2 ≠ U
theorem NoU.step {U : Ut} {t : Int} (h : NoU U t) (hn : mnemS t ≠ U ∨ mnemS t = []) : NoU U (t + 1) := by
  intro p hp hlt e2
  by_cases e : p.1 = t
  · have h1 := mnem_all p hp
    rw [← e, h1.1] at hn
    rcases hn with h2 | h2
    · exact h2 e2
    · exact h1.2.1 h2
  · exact h p hp (by omega) e2
theorem hitU_yes {t : Int} {U : Ut} (h : mnemS t ≠ []) (he : mnemS t = U) : hitU U = some t := by
  have hm := mnem_mem h
  unfold hitU
  cases hf : mnemL.find? (fun p => p.2 == U) with
  | none => have := List.find?_eq_none.1 hf _ hm; simp [he] at this
  | some p =>
    have h2 : p.2 = U := by simpa using List.find?_some hf
    have := mnem_low p (List.mem_of_find?_eq_some hf) _ hm (by rw [h2, he])
    rw [this]; rfl
theorem hitU_no {U : Ut} (h : ∀ p ∈ mnemL, p.2 ≠ U) : hitU U = none := by
  unfold hitU
  rw [List.find?_eq_none.2 (fun p hp => by simpa using h p hp)]; rfl
set_option maxRecDepth 100000 in
set_option maxHeartbeats 4000000 in
theorem typeof_any (s : ByteArray) (w : World) (hs : s.size ≤ 1048576) (hT : Lib.Utf8Tabs 1 2 w) (hP : Lib.TabIs Tryd.prog w "internal/strconv.uint64pow10" .u64 Lib.pow10Tab) :
    Calls Tryd.prog 6 #[.string s] w fun e w' => e = .returned (.int .i64 (typeOfD s.data.toList)) ∧ Below w.heap.size w w' := by
  by_cases h10 : 10 < s.size
  · have hF : Hid (typeOfD s.data.toList = 0) := Lib.hid (by unfold typeOfD; rw [if_pos (by rw [size_len]; exact h10)])
    rw [hF.out]
    have h10i : (10 : Int) < (s.size : Int) := by omega
    go_enter Tryd.func6, Tryd.ntmps6
    go_wp2_with fail
    go_ret
    exact ⟨rfl, Below.refl _ _⟩
  have h10i : (s.size : Int) ≤ 10 := by omega
  obtain ⟨R, hR⟩ : ∃ R, typeOfD s.data.toList = R := ⟨_, rfl⟩
  rw [hR]
  have CM := Lib.hid (map_any s w hs hT)
  obtain ⟨QW, hQW⟩ : ∃ QW : ByteArray, (⟨(Q s.data.toList).toArray⟩ : ByteArray) = QW := ⟨_, rfl⟩
  have hQd : QW.data.toList = Q s.data.toList := by rw [← hQW]
  have hQs : QW.size ≤ 10 := by
    rw [← size_len, hQd]
    have := q_len _ s.data.toList (Nat.le_refl _)
    rw [size_len] at this; omega
  have CU := Lib.hid (fun w => Tryd.strings_ToUpper_ascii QW w (by omega) (fun j b hb => by
    rw [hQd] at hb
    have := q_ascii _ s.data.toList (Nat.le_refl _) b (List.mem_of_getElem? hb)
    omega))
  obtain ⟨UW, hUW⟩ : ∃ UW : ByteArray, (⟨(Lib.toUpperA QW.data.toList).toArray⟩ : ByteArray) = UW := ⟨_, rfl⟩
  obtain ⟨U, hU⟩ : ∃ U, upL (Q s.data.toList) = U := ⟨_, rfl⟩
  have hUd : UW.data.toList = U := by rw [← hUW, hQd]; exact hU
  have hUs : UW.size ≤ 10 := by
    rw [← hUW, mk_size, Lib.toUpperA, List.length_map, size_len]; exact hQs
  have HF : Hid (R = typeOfU U) := Lib.hid (by rw [← hR]; unfold typeOfD; rw [if_neg (by rw [size_len]; exact h10), hU])
  have CC := Lib.hid (fun w => Tryd.strings_CutPrefix UW ⟨#[84, 89, 80, 69]⟩ w)
  rw [hQW] at CM
  rw [hUW] at CU
  rw [hUd] at CC
  have HUD := Lib.hid hUd
  have HP := Lib.hid hP
  clear hR hQW hQd hQs hU hUW hUd hT hP h10
  go_enter Tryd.func6, Tryd.ntmps6
  go_upto_region 4 with (first | (go_at_call 17; refine CM.out.mono ?_; rintro e w1 ⟨rfl, hB1⟩) | (go_at_call 16; refine (CU.out _).mono ?_; rintro e w2 ⟨rfl, hB2⟩))
  have HB2 : Hid (Below w.heap.size w w2) := Lib.hid (hB1.trans (hB2.mono hB1.size))
  clear hB1 hB2 CM CU
  cases hp : Lib.hasPrefix U capT with
  | true =>
    obtain ⟨X4, hX4⟩ : ∃ X4 : ByteArray, (⟨(U.drop 4).toArray⟩ : ByteArray) = X4 := ⟨_, rfl⟩
    have hXd : X4.data.toList = U.drop 4 := by rw [← hX4]
    have hXs : X4.size ≤ 10 := by
      have h1 : U.length = UW.size := by rw [← HUD.out, size_len]
      rw [← hX4, mk_size, List.length_drop]; omega
    have htp : Lib.trimPrefix U capT = U.drop 4 := by unfold Lib.trimPrefix; rw [if_pos hp]; rfl
    have CC2 : Hid (∀ w, Calls Tryd.prog 19 #[.string UW, .string ⟨#[84, 89, 80, 69]⟩] w fun e w' => e = .returned (.tuple #[.string X4, .bool true]) ∧ w' = w) := Lib.hid (fun w => (CC.out w).mono (by
      rintro e w' ⟨rfl, rfl⟩
      refine ⟨?_, rfl⟩
      have h1 : Lib.trimPrefix U (⟨#[84, 89, 80, 69]⟩ : ByteArray).data.toList = U.drop 4 := htp
      have h2 : Lib.hasPrefix U (⟨#[84, 89, 80, 69]⟩ : ByteArray).data.toList = true := hp
      rw [h1, h2, hX4]))
    have CN := Lib.hid (fun w => count_any X4 5 65535 w (by unfold maxLen; omega) (by omega))
    rw [hXd] at CN
    obtain ⟨V, hV⟩ : ∃ V, countS (U.drop 4) 5 65535 = V := ⟨_, rfl⟩
    have HF2 : Hid (R = max V 0) := Lib.hid (by rw [HF.out]; unfold typeOfU; rw [if_pos hp, hV])
    rw [hV] at CN
    clear CC hp hX4 hXd hXs htp hV
    go_wp2_with (first | (go_at_call 19; refine (CC2.out _).mono ?_; rintro e w3 ⟨rfl, rfl⟩) | (go_at_call 20; refine (CN.out _).mono ?_; rintro e w4 ⟨rfl, rfl⟩))
    go_ret
    exact ⟨ret_i HF2.out.symm, HB2.out⟩
  | false =>
    have htp : Lib.trimPrefix U capT = U := by unfold Lib.trimPrefix; rw [if_neg (by rw [hp]; decide)]
    have CC2 : Hid (∀ w, Calls Tryd.prog 19 #[.string UW, .string ⟨#[84, 89, 80, 69]⟩] w fun e w' => e = .returned (.tuple #[.string UW, .bool false]) ∧ w = w') := Lib.hid (fun w => (CC.out w).mono (by
      rintro e w' ⟨rfl, rfl⟩
      refine ⟨?_, rfl⟩
      have h1 : Lib.trimPrefix U (⟨#[84, 89, 80, 69]⟩ : ByteArray).data.toList = U := htp
      have h2 : Lib.hasPrefix U (⟨#[84, 89, 80, 69]⟩ : ByteArray).data.toList = false := hp
      have h3 : (⟨U.toArray⟩ : ByteArray) = UW := ba_ext (by rw [HUD.out])
      rw [h1, h2, h3]))
    have HF2 : Hid (R = (hitU U).getD 0) := Lib.hid (by rw [HF.out]; unfold typeOfU; rw [if_neg (by rw [hp]; decide)])
    have HNP := Lib.hid hp
    clear CC hp htp
    go_wp2_with (go_at_call 19; refine (CC2.out _).mono ?_; rintro e w3 ⟨rfl, rfl⟩)
    clear CC2
    go_loopg [5] 258 (fun gas tv wr => ∃ k : Nat, tv = .int .i64 (k : Int) ∧ 1 ≤ k ∧ k + gas = 259 ∧ k ≤ 258 ∧ Hid (NoU U (k : Int)) ∧ Hid (Below w.heap.size w wr))
    case atStart => exact ⟨1, rfl, by omega, by omega, by omega, Lib.hid (fun p hp h => by have := (mnem_all p hp).2.2.1; simp at h; omega), HB2⟩
    case round =>
      obtain ⟨k, rfl, hk1, hkg, hk, HNB, HB⟩ := hrel
      have HKG := Lib.hid hkg
      clear hkg
      by_cases hlt : k < 258
      · have zl : (k : Int) ≤ 257 := by omega
        have CT := Lib.hid (dtname_any (k : Int) (by omega) (by omega) wr (pow_below HP.out HB.out))
        obtain ⟨M, hM⟩ : ∃ M : ByteArray, (⟨(tnameS (k : Int)).toArray⟩ : ByteArray) = M := ⟨_, rfl⟩
        have hMd : M.data.toList = tnameS (k : Int) := by rw [← hM]
        have hcmp := bytes_eq (a := M) (b := UW)
        rw [hMd, HUD.out] at hcmp
        rw [hM] at CT
        clear hM hMd
        by_cases hq : tnameS (k : Int) = U
        · have hb : (M.toList == UW.toList) = true := by rw [hcmp]; exact decide_eq_true hq
          have hmn : mnemS (k : Int) ≠ [] := fun e => by
            have h1 := tname_in e (by omega) (by omega)
            rw [hq] at h1
            have h2 : Lib.hasPrefix U capT = true := pre_take.2 (by rw [h1]; rfl)
            rw [HNP.out] at h2; cases h2
          have hmU : mnemS (k : Int) = U := by
            rw [← hq]
            exact (tname_yes rfl (by cases h : mnemS (k : Int) with | nil => exact absurd h hmn | cons _ _ => rfl)).symm
          have HF3 : Hid (R = (k : Int)) := Lib.hid (by rw [HF2.out, hitU_yes hmn hmU]; rfl)
          clear hcmp hq hmn hmU
          go_wp2_with (go_at_call 4; refine CT.out.mono ?_; rintro e w4 ⟨rfl, hB4⟩)
          go_ret
          exact ⟨ret_i HF3.out.symm, HB.out.trans (hB4.mono HB.out.size)⟩
        · have hb : (M.toList == UW.toList) = false := by rw [hcmp]; exact decide_eq_false hq
          have HN2 := Lib.hid (HNB.out.step (by
            by_cases he : mnemS (k : Int) = []
            · exact .inr he
            · refine .inl fun e => hq ?_
              rw [← e]
              exact tname_yes rfl (by cases h : mnemS (k : Int) with | nil => exact absurd h he | cons _ _ => rfl)))
          clear hcmp hq
          go_wp2_with (go_at_call 4; refine CT.out.mono ?_; rintro e w4 ⟨rfl, hB4⟩)
          have hkg := HKG.out
          go_roundg (gk - 1)
          case rel => exact ⟨k + 1, by go_num, by omega, by omega, by omega, HN2, Lib.hid (HB.out.trans (hB4.mono HB.out.size))⟩
          case measure => omega
      · have hk3 : k = 258 := by omega
        have HF3 : Hid (R = 0) := Lib.hid (by
          rw [HF2.out, hitU_no (fun p hp => HNB.out p hp (by have := (mnem_all p hp).2.2.2; omega))]; rfl)
        clear hlt
        subst hk3
        go_wp2_with fail
        go_ret
        exact ⟨ret_i HF3.out.symm, HB.out⟩
end Go.Proofs.YtjejmgdpjfdhjaaDoor.typeofD
