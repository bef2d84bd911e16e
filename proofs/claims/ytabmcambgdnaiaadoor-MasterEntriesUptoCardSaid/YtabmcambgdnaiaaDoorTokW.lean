/- gazetteerref2.token, blank; master.blank: walks. -/
import Derived.Test.YtabmcambgdnaiaaDoorEntP
namespace Go.Proofs.YtabmcambgdnaiaaDoor.tokW
open Go.RowKit Go.Proofs.YtabmcambgdnaiaaDoor.kit Go.Proofs.YtabmcambgdnaiaaDoor.entP
set_option linter.unusedVariables false
theorem byte_eq {c d : UInt8} : c = d ↔ (c.toNat : Int) = (d.toNat : Int) := by
  rw [← UInt8.toNat_inj]; omega
theorem blank_of {c : UInt8} {n : Int} (h : (c.toNat : Int) = n) {b : Bool} (hb : b = (n == 32 || n == 9 || n == 13)) : blankB c = b := by
  subst h; subst hb
  have e : ∀ d : UInt8, (c == d) = ((c.toNat : Int) == (d.toNat : Int)) := fun d => by
    rw [Bool.eq_iff_iff, beq_iff_eq, beq_iff_eq, byte_eq]
  unfold blankB
  rw [e, e, e]
  rfl
set_option maxRecDepth 100000 in
theorem rblank_any (c : UInt8) (w : World) : Calls Tryd.prog 19 #[.int .u8 (c.toNat : Int)] w fun e w' => e = .returned (.bool (blankB c)) ∧ w = w' := by
  obtain ⟨n, hn⟩ : ∃ n : Int, (c.toNat : Int) = n := ⟨_, rfl⟩
  rw [hn]
  by_cases h1 : n = 32
  · rw [blank_of (b := true) hn (by rw [h1]; rfl)]
    have a1 : (n == 32) = true := by simp [h1]
    clear hn h1
    go_enter Tryd.func19, Tryd.ntmps19
    go_wp2_with fail
    go_ret
    exact ⟨rfl, rfl⟩
  · have a1 : (n == 32) = false := by simp [h1]
    by_cases h2 : n = 9
    · rw [blank_of (b := true) hn (by rw [h2]; rfl)]
      have a2 : (n == 9) = true := by simp [h2]
      clear hn h1 h2
      go_enter Tryd.func19, Tryd.ntmps19
      go_wp2_with fail
      go_ret
      exact ⟨rfl, rfl⟩
    · have a2 : (n == 9) = false := by simp [h2]
      obtain ⟨b, hb⟩ : ∃ b, (n == 13) = b := ⟨_, rfl⟩
      rw [blank_of (b := b) hn (by rw [a1, a2, hb]; rfl)]
      clear hn h1 h2
      go_enter Tryd.func19, Tryd.ntmps19
      go_wp2_with fail
      go_ret
      exact ⟨rfl, rfl⟩
set_option maxRecDepth 100000 in
theorem mblank_any (c : UInt8) (w : World) : Calls Tryd.prog 36 #[.int .u8 (c.toNat : Int)] w fun e w' => e = .returned (.bool (blankB c)) ∧ w = w' := by
  obtain ⟨n, hn⟩ : ∃ n : Int, (c.toNat : Int) = n := ⟨_, rfl⟩
  rw [hn]
  by_cases h1 : n = 32
  · rw [blank_of (b := true) hn (by rw [h1]; rfl)]
    have a1 : (n == 32) = true := by simp [h1]
    clear hn h1
    go_enter Tryd.func36, Tryd.ntmps36
    go_wp2_with fail
    go_ret
    exact ⟨rfl, rfl⟩
  · have a1 : (n == 32) = false := by simp [h1]
    by_cases h2 : n = 9
    · rw [blank_of (b := true) hn (by rw [h2]; rfl)]
      have a2 : (n == 9) = true := by simp [h2]
      clear hn h1 h2
      go_enter Tryd.func36, Tryd.ntmps36
      go_wp2_with fail
      go_ret
      exact ⟨rfl, rfl⟩
    · have a2 : (n == 9) = false := by simp [h2]
      obtain ⟨b, hb⟩ : ∃ b, (n == 13) = b := ⟨_, rfl⟩
      rw [blank_of (b := b) hn (by rw [a1, a2, hb]; rfl)]
      clear hn h1 h2
      go_enter Tryd.func36, Tryd.ntmps36
      go_wp2_with fail
      go_ret
      exact ⟨rfl, rfl⟩
/-- what token tells -/
def TokP (t : Bt) (k : Nat) (kd : Int) (en : Nat) : Prop := match t[k]? with
  | none => False
  | some c =>
    if blankB c then kd = 32 ∧ en = k + 1
    else if c = 10 ∨ c = 40 ∨ c = 41 then kd = c.toNat ∧ en = k + 1
    else if c = 59 then kd = 32 ∧ en = remAt t (k + 1)
    else if c = 34 then (match wordAt true t (k + 1) with | none => kd = 120 | some j => if t[j]? = some 34 then kd = 113 ∧ en = j + 1 else kd = 120)
    else match wordAt false t k with | none => kd = 120 | some j => kd = 119 ∧ en = j
section
variable {t : Bt} {k : Nat} {c : UInt8}
theorem tp_blank (h : t[k]? = some c) (hb : blankB c = true) : TokP t k 32 (k + 1) := by simp [TokP, h, hb]
theorem tp_one (h : t[k]? = some c) (hc : c = 10 ∨ c = 40 ∨ c = 41) : TokP t k (c.toNat : Int) (k + 1) := by
  rcases hc with rfl | rfl | rfl <;> simp [TokP, h, blankB]
theorem tp_rem (h : t[k]? = some 59) : TokP t k 32 (remAt t k) := by
  simp [TokP, h, blankB]; exact rem_step h (by decide)
theorem tp_quo0 {en : Nat} (h : t[k]? = some 34) (hw : wordAt true t (k + 1) = none) : TokP t k 120 en := by simp [TokP, h, blankB, hw]
theorem tp_quo1 {en j : Nat} (h : t[k]? = some 34) (hw : wordAt true t (k + 1) = some j) (hj : t[j]? ≠ some 34) : TokP t k 120 en := by simp [TokP, h, blankB, hw, hj]
theorem tp_quo2 {j : Nat} (h : t[k]? = some 34) (hw : wordAt true t (k + 1) = some j) (hj : t[j]? = some 34) : TokP t k 113 (j + 1) := by simp [TokP, h, blankB, hw, hj]
theorem tp_word0 {en : Nat} (h : t[k]? = some c) (hc : stopB false c = false) (hw : wordAt false t k = none) : TokP t k 120 en := by
  obtain ⟨a, b, c', d, e, f⟩ := wordB_ne hc
  simp [TokP, h, hw, a, b, c', d, e, f]
theorem tp_word1 {j : Nat} (h : t[k]? = some c) (hc : stopB false c = false) (hw : wordAt false t k = some j) : TokP t k 119 j := by
  obtain ⟨a, b, c', d, e, f⟩ := wordB_ne hc
  simp [TokP, h, hw, a, b, c', d, e, f]
end
theorem nb {c d : UInt8} {m : Int} (hm : (d.toNat : Int) = m) (h : c ≠ d) : ((c.toNat : Int) == m) = false := by
  subst hm; rw [beq_eq_false_iff_ne]; exact fun e => h (byte_eq.2 e)
theorem yb {c d : UInt8} {m : Int} (hm : (d.toNat : Int) = m) (h : c = d) : ((c.toNat : Int) == m) = true := by
  subst hm; subst h; simp
theorem s_at (s : ByteArray) (j : Nat) (h : j < s.size) : s.data.toList[j]? = some s[j] := by rw [List.getElem?_eq_getElem (by simpa using h)]; rfl
def RetT (t : Bt) (k : Nat) (e : Ending) : Prop := ∃ (kd : Int) (en : Nat), e = .returned (.tuple #[.int .u8 kd, .int .i64 (en : Int)]) ∧ TokP t k kd en
theorem retT {t : Bt} {k en : Nat} {kd v : Int} (h : TokP t k kd en) (hv : v = (en : Int)) : RetT t k (.returned (.tuple #[.int .u8 kd, .int .i64 v])) := by
  subst hv; exact ⟨kd, en, rfl, h⟩
set_option maxRecDepth 100000 in
set_option maxHeartbeats 4000000 in
theorem token_any (s : ByteArray) (k : Nat) (w : World) (hs : s.size ≤ 1099511627776) (hk : k < s.size) : Calls Tryd.prog 20 #[.string s, .int .i64 (k : Int)] w fun e w' => RetT s.data.toList k e ∧ w = w' := by
  have HAT := Lib.hid (s_at s k hk)
  have CB := Lib.hid (fun w => rblank_any s[k] w)
  by_cases hbl : blankB s[k] = true
  · rw [hbl] at CB
    have HBL := Lib.hid hbl
    clear hbl
    go_enter Tryd.func20, Tryd.ntmps20
    go_wp2_with fail
    refine (CB.out _).mono ?_
    rintro e w1 ⟨rfl, rfl⟩
    clear CB
    go_wp2_with fail
    go_ret2
    exact ⟨retT (tp_blank HAT.out HBL.out) (by omega), rfl⟩
  have hbf : blankB s[k] = false := by simpa using hbl
  have HBF := Lib.hid hbf
  rw [hbf] at CB
  clear hbl hbf
  by_cases h10 : s[k] = 10
  · have HE := Lib.hid h10
    have b10 := yb (m := 10) rfl h10
    clear h10
    go_enter Tryd.func20, Tryd.ntmps20
    go_wp2_with fail
    refine (CB.out _).mono ?_
    rintro e w1 ⟨rfl, rfl⟩
    clear CB
    go_wp2_with fail
    go_ret2
    exact ⟨retT (tp_one HAT.out (by rw [HE.out]; decide)) (by omega), rfl⟩
  have b10 := nb (m := 10) rfl h10
  have H10 := Lib.hid h10
  clear h10
  by_cases h40 : s[k] = 40
  · have HE := Lib.hid h40
    have b40 := yb (m := 40) rfl h40
    clear h40
    go_enter Tryd.func20, Tryd.ntmps20
    go_wp2_with fail
    refine (CB.out _).mono ?_
    rintro e w1 ⟨rfl, rfl⟩
    clear CB
    go_wp2_with fail
    go_ret2
    exact ⟨retT (tp_one HAT.out (by rw [HE.out]; decide)) (by omega), rfl⟩
  have b40 := nb (m := 40) rfl h40
  have H40 := Lib.hid h40
  clear h40
  by_cases h41 : s[k] = 41
  · have HE := Lib.hid h41
    have b41 := yb (m := 41) rfl h41
    clear h41
    go_enter Tryd.func20, Tryd.ntmps20
    go_wp2_with fail
    refine (CB.out _).mono ?_
    rintro e w1 ⟨rfl, rfl⟩
    clear CB
    go_wp2_with fail
    go_ret2
    exact ⟨retT (tp_one HAT.out (by rw [HE.out]; decide)) (by omega), rfl⟩
  have b41 := nb (m := 41) rfl h41
  have H41 := Lib.hid h41
  clear h41
  by_cases h59 : s[k] = 59
  · have HE := Lib.hid h59
    have b59 := yb (m := 59) rfl h59
    clear h59
    obtain ⟨R, hR⟩ : ∃ R, remAt s.data.toList k = R := ⟨_, rfl⟩
    have HR := Lib.hid hR
    clear hR
    go_enter Tryd.func20, Tryd.ntmps20
    go_wp2_with fail
    refine (CB.out _).mono ?_
    rintro e w1 ⟨rfl, rfl⟩
    clear CB
    go_wp2_with fail
    go_loopg [7] (s.size - k) (fun gas jv wr => ∃ j : Nat, jv = .int .i64 (j : Int) ∧ j + gas = s.size ∧ Hid (remAt s.data.toList j = R) ∧ w = wr)
    case atStart => exact ⟨k, rfl, by omega, HR, rfl⟩
    case round =>
      obtain ⟨j, rfl, hj, HRJ, rfl⟩ := hrel
      have HJ := Lib.hid hj
      have hj' : j ≤ s.size := by omega
      clear hj
      by_cases hlt : j < s.size
      · by_cases h10 : s[j] = 10
        · have c10 := yb (m := 10) rfl h10
          have HF : Hid (R = j) := Lib.hid (by rw [← HRJ.out]; exact rem_stop (by rw [s_at s j hlt, h10]))
          clear h10
          go_wp2_with fail
          go_ret2
          exact ⟨retT (tp_rem (by rw [HAT.out, HE.out])) (by rw [HR.out, HF.out]), rfl⟩
        · have c10 := nb (m := 10) rfl h10
          have HF := Lib.hid ((rem_step (s_at s j hlt) h10).symm.trans HRJ.out)
          clear h10
          go_wp2_with fail
          have hj := HJ.out
          go_roundg (gk - 1)
          case rel => exact ⟨j + 1, by go_num, by omega, HF, rfl⟩
          case measure => omega
      · have HF : Hid (R = j) := Lib.hid (by rw [← HRJ.out]; exact rem_end (by simp; omega))
        go_wp2_with fail
        go_ret2
        exact ⟨retT (tp_rem (by rw [HAT.out, HE.out])) (by rw [HR.out, HF.out]), rfl⟩
  have b59 := nb (m := 59) rfl h59
  have H59 := Lib.hid h59
  clear h59
  by_cases h34 : s[k] = 34
  · have HE := Lib.hid h34
    have b34 := yb (m := 34) rfl h34
    have b34n : ((s[k].toNat : Int) != 34) = false := by simp [bne, b34]
    clear h34
    obtain ⟨R, hR⟩ : ∃ R, wordAt true s.data.toList (k + 1) = R := ⟨_, rfl⟩
    have HR := Lib.hid hR
    clear hR
    go_enter Tryd.func20, Tryd.ntmps20
    go_wp2_with fail
    refine (CB.out _).mono ?_
    rintro e w1 ⟨rfl, rfl⟩
    clear CB
    go_wp2_with fail
    go_loopg [7] (s.size - (k + 1)) (fun gas jv wr => ∃ j : Nat, jv = .int .i64 (j : Int) ∧ j + gas = s.size ∧ Hid (wordAt true s.data.toList j = R) ∧ w = wr)
    case atStart => exact ⟨(k + 1), by go_num, by omega, HR, rfl⟩
    case round =>
      obtain ⟨j, rfl, hj, HRJ, rfl⟩ := hrel
      have HJ := Lib.hid hj
      have hj' : j ≤ s.size := by omega
      clear hj
      by_cases hlt : j < s.size
      · by_cases h92 : s[j] = 92
        · have c92 := yb (m := 92) rfl h92
          have HX := Lib.hid ((s_at s j hlt).trans (congrArg some h92))
          clear h92
          by_cases hlt2 : j + 1 < s.size
          · by_cases e10 : s[j + 1] = 10
            · have d10 := yb (m := 10) rfl e10
              have HF : Hid (R = none) := Lib.hid (by rw [← HRJ.out]; exact word_bad2 HX.out (by rw [s_at s (j + 1) hlt2, e10]))
              clear e10
              go_wp2_with fail
              go_ret2
              exact ⟨retT (en := j) (tp_quo0 (by rw [HAT.out, HE.out]) (by rw [HR.out, HF.out])) rfl, rfl⟩
            · have d10 := nb (m := 10) rfl e10
              have HF := Lib.hid ((word_esc HX.out (s_at s (j + 1) hlt2) e10).symm.trans HRJ.out)
              clear e10
              go_wp2_with fail
              have hj := HJ.out
              go_roundg (gk - 2)
              case rel => exact ⟨j + 2, by go_num, by omega, HF, rfl⟩
              case measure => omega
          · have HF : Hid (R = none) := Lib.hid (by rw [← HRJ.out]; exact word_bad1 HX.out (by simp; omega))
            go_wp2_with fail
            go_ret2
            exact ⟨retT (en := j) (tp_quo0 (by rw [HAT.out, HE.out]) (by rw [HR.out, HF.out])) rfl, rfl⟩
        have c92 := nb (m := 92) rfl h92
        have H92 := Lib.hid h92
        clear h92
        by_cases e34 : s[j] = 34
        · have d34 := yb (m := 34) rfl e34
          have HF : Hid (R = some j) := Lib.hid (by rw [← HRJ.out]; exact word_stop (s_at s j hlt) (by rw [e34]; rfl))
          have HQ := Lib.hid ((s_at s j hlt).trans (congrArg some e34))
          clear e34
          go_wp2_with fail
          go_ret2
          exact ⟨retT (tp_quo2 (by rw [HAT.out, HE.out]) (by rw [HR.out, HF.out]) HQ.out) (by omega), rfl⟩
        have d34 := nb (m := 34) rfl e34
        by_cases e10 : s[j] = 10
        · have d10 := yb (m := 10) rfl e10
          have HF : Hid (R = some j) := Lib.hid (by rw [← HRJ.out]; exact word_stop (s_at s j hlt) (by rw [e10]; rfl))
          have HQ : Hid (s.data.toList[j]? ≠ some 34) := Lib.hid (by rw [s_at s j hlt, e10]; decide)
          clear e34 e10
          go_wp2_with fail
          go_ret2
          exact ⟨retT (en := j) (tp_quo1 (by rw [HAT.out, HE.out]) (by rw [HR.out, HF.out]) HQ.out) rfl, rfl⟩
        have d10 := nb (m := 10) rfl e10
        have HF := Lib.hid ((word_plain (s_at s j hlt) (by simp [stopB, e34, e10]) H92.out).symm.trans HRJ.out)
        clear e34 e10
        go_wp2_with fail
        have hj := HJ.out
        go_roundg (gk - 1)
        case rel => exact ⟨j + 1, by go_num, by omega, HF, rfl⟩
        case measure => omega
      · have HF : Hid (R = some j) := Lib.hid (by rw [← HRJ.out]; exact word_end (by simp; omega))
        have HQ : Hid (s.data.toList[j]? ≠ some 34) := Lib.hid (by rw [List.getElem?_eq_none (by simp; omega)]; simp)
        go_wp2_with fail
        go_ret2
        exact ⟨retT (en := j) (tp_quo1 (by rw [HAT.out, HE.out]) (by rw [HR.out, HF.out]) HQ.out) rfl, rfl⟩
  have b34 := nb (m := 34) rfl h34
  have b34n : ((s[k].toNat : Int) != 34) = true := by simp only [bne, b34]; rfl
  have HST : Hid (stopB false s[k] = false) := Lib.hid (by simp [stopB, HBF.out, H10.out, H59.out, H40.out, H41.out, h34])
  clear h34
  obtain ⟨R, hR⟩ : ∃ R, wordAt false s.data.toList k = R := ⟨_, rfl⟩
  have HR := Lib.hid hR
  clear hR
  go_enter Tryd.func20, Tryd.ntmps20
  go_wp2_with fail
  refine (CB.out _).mono ?_
  rintro e w1 ⟨rfl, rfl⟩
  clear CB
  go_wp2_with fail
  go_loopg [7] (s.size - k) (fun gas jv wr => ∃ j : Nat, jv = .int .i64 (j : Int) ∧ j + gas = s.size ∧ Hid (wordAt false s.data.toList j = R) ∧ w = wr)
  case atStart => exact ⟨k, rfl, by omega, HR, rfl⟩
  case round =>
    obtain ⟨j, rfl, hj, HRJ, rfl⟩ := hrel
    have HJ := Lib.hid hj
    have hj' : j ≤ s.size := by omega
    clear hj
    by_cases hlt : j < s.size
    · by_cases h92 : s[j] = 92
      · have c92 := yb (m := 92) rfl h92
        have HX := Lib.hid ((s_at s j hlt).trans (congrArg some h92))
        clear h92
        by_cases hlt2 : j + 1 < s.size
        · by_cases e10 : s[j + 1] = 10
          · have d10 := yb (m := 10) rfl e10
            have HF : Hid (R = none) := Lib.hid (by rw [← HRJ.out]; exact word_bad2 HX.out (by rw [s_at s (j + 1) hlt2, e10]))
            clear e10
            go_wp2_with fail
            go_ret2
            exact ⟨retT (en := j) (tp_word0 HAT.out HST.out (by rw [HR.out, HF.out])) rfl, rfl⟩
          · have d10 := nb (m := 10) rfl e10
            have HF := Lib.hid ((word_esc HX.out (s_at s (j + 1) hlt2) e10).symm.trans HRJ.out)
            clear e10
            go_wp2_with fail
            have hj := HJ.out
            go_roundg (gk - 2)
            case rel => exact ⟨j + 2, by go_num, by omega, HF, rfl⟩
            case measure => omega
        · have HF : Hid (R = none) := Lib.hid (by rw [← HRJ.out]; exact word_bad1 HX.out (by simp; omega))
          go_wp2_with fail
          go_ret2
          exact ⟨retT (en := j) (tp_word0 HAT.out HST.out (by rw [HR.out, HF.out])) rfl, rfl⟩
      have c92 := nb (m := 92) rfl h92
      have H92 := Lib.hid h92
      clear h92
      have CBJ := Lib.hid (fun w => rblank_any s[j] w)
      obtain ⟨bj, hbj⟩ : ∃ b, blankB s[j] = b := ⟨_, rfl⟩
      rw [hbj] at CBJ
      cases bj with
      | true =>
        have HF : Hid (R = some j) := Lib.hid (by rw [← HRJ.out]; exact word_stop (s_at s j hlt) (by simp [stopB, hbj]))
        clear hbj
        go_wp2_with fail
        refine (CBJ.out _).mono ?_
        rintro e w1 ⟨rfl, rfl⟩
        clear CBJ
        go_wp2_with fail
        go_ret2
        exact ⟨retT (tp_word1 HAT.out HST.out (by rw [HR.out, HF.out])) rfl, rfl⟩
      | false =>
        by_cases e10 : s[j] = 10
        · have d10 := yb (m := 10) rfl e10
          have HF : Hid (R = some j) := Lib.hid (by rw [← HRJ.out]; exact word_stop (s_at s j hlt) (by rw [e10]; rfl))
          clear hbj e10
          go_wp2_with fail
          refine (CBJ.out _).mono ?_
          rintro e w1 ⟨rfl, rfl⟩
          clear CBJ
          go_wp2_with fail
          go_ret2
          exact ⟨retT (tp_word1 HAT.out HST.out (by rw [HR.out, HF.out])) rfl, rfl⟩
        have d10 := nb (m := 10) rfl e10
        by_cases e59 : s[j] = 59
        · have d59 := yb (m := 59) rfl e59
          have HF : Hid (R = some j) := Lib.hid (by rw [← HRJ.out]; exact word_stop (s_at s j hlt) (by rw [e59]; rfl))
          clear hbj e59 e10
          go_wp2_with fail
          refine (CBJ.out _).mono ?_
          rintro e w1 ⟨rfl, rfl⟩
          clear CBJ
          go_wp2_with fail
          go_ret2
          exact ⟨retT (tp_word1 HAT.out HST.out (by rw [HR.out, HF.out])) rfl, rfl⟩
        have d59 := nb (m := 59) rfl e59
        by_cases e40 : s[j] = 40
        · have d40 := yb (m := 40) rfl e40
          have HF : Hid (R = some j) := Lib.hid (by rw [← HRJ.out]; exact word_stop (s_at s j hlt) (by rw [e40]; rfl))
          clear hbj e40 e10 e59
          go_wp2_with fail
          refine (CBJ.out _).mono ?_
          rintro e w1 ⟨rfl, rfl⟩
          clear CBJ
          go_wp2_with fail
          go_ret2
          exact ⟨retT (tp_word1 HAT.out HST.out (by rw [HR.out, HF.out])) rfl, rfl⟩
        have d40 := nb (m := 40) rfl e40
        by_cases e41 : s[j] = 41
        · have d41 := yb (m := 41) rfl e41
          have HF : Hid (R = some j) := Lib.hid (by rw [← HRJ.out]; exact word_stop (s_at s j hlt) (by rw [e41]; rfl))
          clear hbj e41 e10 e59 e40
          go_wp2_with fail
          refine (CBJ.out _).mono ?_
          rintro e w1 ⟨rfl, rfl⟩
          clear CBJ
          go_wp2_with fail
          go_ret2
          exact ⟨retT (tp_word1 HAT.out HST.out (by rw [HR.out, HF.out])) rfl, rfl⟩
        have d41 := nb (m := 41) rfl e41
        by_cases e34 : s[j] = 34
        · have d34 := yb (m := 34) rfl e34
          have HF : Hid (R = some j) := Lib.hid (by rw [← HRJ.out]; exact word_stop (s_at s j hlt) (by rw [e34]; rfl))
          clear hbj e34 e10 e59 e40 e41
          go_wp2_with fail
          refine (CBJ.out _).mono ?_
          rintro e w1 ⟨rfl, rfl⟩
          clear CBJ
          go_wp2_with fail
          go_ret2
          exact ⟨retT (tp_word1 HAT.out HST.out (by rw [HR.out, HF.out])) rfl, rfl⟩
        have d34 := nb (m := 34) rfl e34
        have HF := Lib.hid ((word_plain (s_at s j hlt) (by simp [stopB, hbj, e10, e59, e40, e41, e34]) H92.out).symm.trans HRJ.out)
        clear hbj e10 e59 e40 e41 e34
        go_wp2_with fail
        refine (CBJ.out _).mono ?_
        rintro e w1 ⟨rfl, rfl⟩
        clear CBJ
        go_wp2_with fail
        have hj := HJ.out
        go_roundg (gk - 1)
        case rel => exact ⟨j + 1, by go_num, by omega, HF, rfl⟩
        case measure => omega
    · have HF : Hid (R = some j) := Lib.hid (by rw [← HRJ.out]; exact word_end (by simp; omega))
      go_wp2_with fail
      go_ret2
      exact ⟨retT (tp_word1 HAT.out HST.out (by rw [HR.out, HF.out])) rfl, rfl⟩
end Go.Proofs.YtabmcambgdnaiaaDoor.tokW
