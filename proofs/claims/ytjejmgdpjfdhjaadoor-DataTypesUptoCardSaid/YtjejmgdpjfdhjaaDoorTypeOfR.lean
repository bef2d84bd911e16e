/- gazetteerref1.TypeOf: plain and walk. -/
import Derived.Test.YtjejmgdpjfdhjaaDoorCount
import Derived.Test.YtjejmgdpjfdhjaaDoorLow
namespace Go.Proofs.YtjejmgdpjfdhjaaDoor.typeofR
open Go.RowKit Go.Proofs.YtjejmgdpjfdhjaaDoor.kit Go.Proofs.YtjejmgdpjfdhjaaDoor.low Go.Proofs.YtjejmgdpjfdhjaaDoor.tname Go.Proofs.YtjejmgdpjfdhjaaDoor.cnt
set_option linter.unusedVariables false
abbrev Bt := List UInt8

def hitS (L : Bt) : Option Int := (mnemL.find? (fun p => lowL p.2 == L)).map (·.1)
def wordT : Bt := [116, 121, 112, 101]
def restS (L : Bt) : Int := if L.length < 5 ∨ L.take 4 ≠ wordT then 0 else if countS (L.drop 4) 5 65535 < 1 then 0 else countS (L.drop 4) 5 65535
def typeOfS (l : Bt) : Int := (hitS (lowL l)).getD (restS (lowL l))
theorem mnem_all : ∀ p ∈ mnemL, mnemS p.1 = p.2 ∧ p.2 ≠ [] ∧ 1 ≤ p.1 ∧ p.1 ≤ 257 := by decide
theorem mnem_low : ∀ p ∈ mnemL, ∀ q ∈ mnemL, lowL p.2 = lowL q.2 → p = q := by decide +kernel
theorem mnem_mem {t : Int} (h : mnemS t ≠ []) : (t, mnemS t) ∈ mnemL := by
  unfold mnemS at h ⊢
  cases hf : mnemL.find? (·.1 == t) with
  | none => rw [hf] at h; exact absurd rfl h
  | some p =>
    have h1 := List.mem_of_find?_eq_some hf
    have h2 := List.find?_some hf
    have h3 : p.1 = t := by simpa using h2
    rw [← h3]; exact h1
theorem hit_yes {t : Int} {L : Bt} (h : mnemS t ≠ []) (he : lowL (mnemS t) = L) : hitS L = some t := by
  have hm := mnem_mem h
  unfold hitS
  cases hf : mnemL.find? (fun p => lowL p.2 == L) with
  | none => have := List.find?_eq_none.1 hf _ hm; simp [he] at this
  | some p =>
    have h2 : lowL p.2 = L := by simpa using List.find?_some hf
    have := mnem_low p (List.mem_of_find?_eq_some hf) _ hm (h2.trans he.symm)
    rw [this]; rfl
theorem hit_no {L : Bt} (h : ∀ p ∈ mnemL, lowL p.2 ≠ L) : hitS L = none := by
  unfold hitS
  rw [List.find?_eq_none.2 (fun p hp => by simpa using h p hp)]; rfl
/-- none of the words ahead of t -/
def NoB (L : Bt) (t : Int) : Prop := ∀ p ∈ mnemL, p.1 < t → lowL p.2 ≠ L
theorem NoB.step {L : Bt} {t : Int} (h : NoB L t) (hn : mnemS t = [] ∨ lowL (mnemS t) ≠ L) : NoB L (t + 1) := by
  intro p hp hlt
  by_cases e : p.1 = t
  · have h1 := mnem_all p hp
    rcases hn with h2 | h2
    · rw [← e, h1.1] at h2; exact absurd h2 h1.2.1
    · rw [← e, h1.1] at h2; exact h2
  · exact h p hp (by omega)
theorem bytes_eq {a b : ByteArray} : (a.toList == b.toList) = decide (a.data.toList = b.data.toList) := by
  rw [Lib.toList_data, Lib.toList_data, Bool.eq_iff_iff, beq_iff_eq, decide_eq_true_eq]
set_option maxRecDepth 100000 in
set_option maxHeartbeats 4000000 in
theorem rtypeof_any (s : ByteArray) (w : World) (hs : s.size ≤ 1048576) :
    Calls Tryd.prog 7 #[.string s] w fun e w' => e = .returned (.int .i64 (typeOfS s.data.toList)) ∧ Below w.heap.size w w' := by
  obtain ⟨R, hR⟩ : ∃ R, typeOfS s.data.toList = R := ⟨_, rfl⟩
  have HR := Lib.hid hR
  rw [hR]
  have CL := Lib.hid (low_any s w (by unfold maxLen; omega))
  obtain ⟨L, hL⟩ : ∃ L, lowL s.data.toList = L := ⟨_, rfl⟩
  have hLl : L.length = s.size := by rw [← hL, lowL, List.length_map, size_len]
  have HT : Hid (R = (hitS L).getD (restS L)) := Lib.hid (by rw [← hR, typeOfS, hL])
  rw [hL] at CL
  obtain ⟨LW, hLW⟩ : ∃ LW : ByteArray, (⟨L.toArray⟩ : ByteArray) = LW := ⟨_, rfl⟩
  have HLD : Hid (LW.data.toList = L) := Lib.hid (by rw [← hLW])
  have hsz : LW.size = s.size := by rw [← hLW, mk_size, hLl]
  rw [hLW] at CL
  have HLL := Lib.hid hLl
  have HSZ := Lib.hid hsz
  clear hR hL hLW hLl hsz
  go_enter Tryd.func7, Tryd.ntmps7
  go_wp2_with (go_at_call 21; refine CL.out.mono ?_; rintro e w1 ⟨rfl, hB1⟩)
  have HB1 := Lib.hid hB1
  clear hB1 CL
  go_loopg [4] 300 (fun gas tv wr => ∃ k : Nat, tv = .int .i64 (k : Int) ∧ 1 ≤ k ∧ k + gas = 301 ∧ k ≤ 300 ∧ Hid (NoB L (k : Int)) ∧ Hid (Below w.heap.size w wr))
  case atStart => exact ⟨1, rfl, by omega, by omega, by omega, Lib.hid (fun p hp h => by have := (mnem_all p hp).2.2.1; simp at h; omega), HB1⟩
  case round =>
    obtain ⟨k, rfl, hk1, hkg, hk, HNB, HB⟩ := hrel
    have HKG := Lib.hid hkg
    clear hkg
    by_cases hlt : k < 300
    · have CM := Lib.hid (fun w => mnem_any (k : Int) w)
      obtain ⟨M, hM⟩ : ∃ M, mnemS (k : Int) = M := ⟨_, rfl⟩
      have HM := Lib.hid hM
      rw [hM] at CM
      have zl : (k : Int) < 300 := by omega
      cases hE : M.isEmpty with
      | true =>
        obtain rfl : M = [] := List.isEmpty_iff.1 hE
        have HN2 := Lib.hid (HNB.out.step (.inl hM))
        clear hM hE
        go_wp2_with (go_at_call 14; refine (CM.out _).mono ?_; rintro e w2 ⟨rfl, rfl⟩)
        have hkg := HKG.out
        go_roundg (gk - 1)
        case rel => exact ⟨k + 1, by go_num, by omega, by omega, by omega, HN2, HB⟩
        case measure => omega
      | false =>
        have he := mk_emp hE
        have hMn : M ≠ [] := fun e => by rw [e] at hE; cases hE
        obtain ⟨B, hB⟩ : ∃ B : ByteArray, (⟨M.toArray⟩ : ByteArray) = B := ⟨_, rfl⟩
        have hBd : B.data.toList = M := by rw [← hB]
        have hBs : B.size ≤ 10 := by
          have hq := mnem_mem (t := (k : Int)) (by rw [hM]; exact hMn)
          rw [hM] at hq
          have hle : ∀ p ∈ mnemL, p.2.length ≤ 10 := by decide
          have := hle _ hq
          rw [← hB, mk_size]; exact this
        have CB := Lib.hid (fun w => low_any B w (by unfold maxLen; omega))
        rw [hBd] at CB
        obtain ⟨BL, hBL⟩ : ∃ BL : ByteArray, (⟨(lowL M).toArray⟩ : ByteArray) = BL := ⟨_, rfl⟩
        have hBLd : BL.data.toList = lowL M := by rw [← hBL]
        have hcmp := bytes_eq (a := BL) (b := LW)
        rw [hBLd, HLD.out] at hcmp
        rw [hB] at CM he
        rw [hBL] at CB
        clear hB hBL hE hBs hBd hBLd
        by_cases hq : lowL M = L
        · have hb : (BL.toList == LW.toList) = true := by rw [hcmp]; exact decide_eq_true hq
          have HF : Hid (R = (k : Int)) := Lib.hid (by rw [HT.out, hit_yes (by rw [hM]; exact hMn) (by rw [hM]; exact hq)]; rfl)
          clear hcmp hM hq hMn
          go_wp2_with (first | (go_at_call 14; refine (CM.out _).mono ?_; rintro e w2 ⟨rfl, rfl⟩) | (go_at_call 21; refine (CB.out _).mono ?_; rintro e w3 ⟨rfl, hB3⟩))
          go_ret
          exact ⟨ret_i HF.out.symm, HB.out.trans (hB3.mono HB.out.size)⟩
        · have hb : (BL.toList == LW.toList) = false := by rw [hcmp]; exact decide_eq_false hq
          have HN2 := Lib.hid (HNB.out.step (.inr (by rw [hM]; exact hq)))
          clear hcmp hM hq hMn
          go_wp2_with (first | (go_at_call 14; refine (CM.out _).mono ?_; rintro e w2 ⟨rfl, rfl⟩) | (go_at_call 21; refine (CB.out _).mono ?_; rintro e w3 ⟨rfl, hB3⟩))
          have hkg := HKG.out
          go_roundg (gk - 1)
          case rel => exact ⟨k + 1, by go_num, by omega, by omega, by omega, HN2, Lib.hid (HB.out.trans (hB3.mono HB.out.size))⟩
          case measure => omega
    · have hk3 : k = 300 := by omega
      have HF : Hid (R = restS L) := Lib.hid (by
        rw [HT.out, hit_no (fun p hp => HNB.out p hp (by have := (mnem_all p hp).2.2.2; omega))]; rfl)
      have zk : ¬ (k : Int) < 300 := by omega
      clear hlt
      subst hk3
      by_cases h5 : LW.size < 5
      · have HF2 : Hid (R = 0) := Lib.hid (by rw [HF.out, restS, if_pos (.inl (by rw [HLL.out, ← HSZ.out]; exact h5))])
        have h5i : (LW.size : Int) < 5 := by omega
        go_wp2_with fail
        go_ret
        exact ⟨ret_i HF2.out.symm, HB.out⟩
      have h5i : (5 : Int) ≤ (LW.size : Int) := by omega
      have hb5 : decide (LW.size < 5) = false := by rw [decide_eq_false_iff_not]; exact h5
      have e4 : (⟨#[116, 121, 112, 101]⟩ : ByteArray).toList = [116, 121, 112, 101] := by rw [Lib.toList_data]
      have hLWs : LW.size ≤ 1048576 := by rw [HSZ.out]; exact hs
      have hcmp := bytes_eq (a := LW.extract 0 4) (b := ⟨#[116, 121, 112, 101]⟩)
      rw [Lib.extract_data, List.drop_zero, HLD.out] at hcmp
      obtain ⟨P4, hP4⟩ : ∃ P4, LW.extract 0 4 = P4 := ⟨_, rfl⟩
      rw [hP4] at hcmp
      by_cases hp : L.take 4 = wordT
      · have hb : (P4.toList == (⟨#[116, 121, 112, 101]⟩ : ByteArray).toList) = true := by rw [hcmp]; exact decide_eq_true hp
        have hb2 : (P4.toList == [116, 121, 112, 101]) = true := by rw [← e4]; exact hb
        obtain ⟨X4, hX4⟩ : ∃ X4, LW.extract 4 LW.size = X4 := ⟨_, rfl⟩
        have hXd : X4.data.toList = L.drop 4 := by
          rw [← hX4, Lib.extract_data, HLD.out, List.take_of_length_le (by rw [List.length_drop, HLL.out, HSZ.out]; omega)]
        have hXs : X4.size ≤ maxLen := by rw [← hX4, ByteArray.size_extract]; unfold maxLen; omega
        have CN := Lib.hid (fun w => cnt.number_any X4 5 65535 w hXs (by omega))
        rw [hXd] at CN
        obtain ⟨V, hV⟩ : ∃ V, countS (L.drop 4) 5 65535 = V := ⟨_, rfl⟩
        have HF2 : Hid (R = if V < 1 then 0 else V) := Lib.hid (by rw [HF.out, restS, if_neg (fun h => h.elim (fun h => h5 (by rw [HSZ.out, ← HLL.out]; exact h)) (fun h => h hp)), hV])
        rw [hV] at CN
        clear hcmp hXd hXs hV hp e4
        by_cases hv : V < 1
        · go_wp2_with (go_at_call 22; refine (CN.out _).mono ?_; rintro e w2 ⟨rfl, rfl⟩)
          go_ret
          exact ⟨ret_i (by rw [HF2.out, if_pos hv]), HB.out⟩
        · have hv2 : 1 ≤ V := by omega
          go_wp2_with (go_at_call 22; refine (CN.out _).mono ?_; rintro e w2 ⟨rfl, rfl⟩)
          go_ret
          exact ⟨ret_i (by rw [HF2.out, if_neg (by omega)]), HB.out⟩
      · have hb : (P4.toList == (⟨#[116, 121, 112, 101]⟩ : ByteArray).toList) = false := by rw [hcmp]; exact decide_eq_false hp
        have hb2 : (P4.toList == [116, 121, 112, 101]) = false := by rw [← e4]; exact hb
        have HF2 : Hid (R = 0) := Lib.hid (by rw [HF.out, restS, if_pos (.inr hp)])
        clear hcmp hp e4
        go_wp2_with fail
        go_ret
        exact ⟨ret_i HF2.out.symm, HB.out⟩
end Go.Proofs.YtjejmgdpjfdhjaaDoor.typeofR
