/- Numbers that are written: plain; walks of data.count and gazetteerref1.Number. -/
import Derived.Test.YtjejmgdpjfdhjaaDoorTName
namespace Go.Proofs.YtjejmgdpjfdhjaaDoor.cnt
open Go.RowKit Go.Proofs.YtjejmgdpjfdhjaaDoor.kit
set_option linter.unusedVariables false
abbrev Bt := List UInt8
def digB (c : UInt8) : Bool := 48 ≤ c.toNat && c.toNat ≤ 57
def numS : Int → Bt → Int
  | v, [] => v
  | v, c :: r => if digB c then numS (v * 10 + ((c.toNat : Int) - 48)) r else -1
def countS (l : Bt) (size : Nat) (top : Int) : Int := if l = [] ∨ size < l.length then -1 else if top < numS 0 l then -1 else numS 0 l
theorem count_out {l : Bt} {size : Nat} {top : Int} (h : l = [] ∨ size < l.length) : countS l size top = -1 := by unfold countS; rw [if_pos h]
theorem count_in {l : Bt} {size : Nat} {top R : Int} (h1 : l ≠ []) (h2 : l.length ≤ size) (hR : numS 0 l = R) : countS l size top = if top < R then -1 else R := by unfold countS; rw [if_neg (by simp [h1]; omega), hR]
theorem num_end {v : Int} : numS v [] = v := rfl
theorem num_yes {v : Int} {c : UInt8} {r : Bt} (h1 : 48 ≤ c.toNat) (h2 : c.toNat ≤ 57) : numS v (c :: r) = numS (v * 10 + ((c.toNat : Int) - 48)) r := by
  simp [numS, digB, h1, h2]
theorem num_no {v : Int} {c : UInt8} {r : Bt} (h : c.toNat < 48 ∨ 57 < c.toNat) : numS v (c :: r) = -1 := by
  have : digB c = false := by unfold digB; simp; omega
  simp [numS, this]
theorem ret_i {a b : Int} (h : a = b) : Ending.returned (.int .i64 a) = .returned (.int .i64 b) := by rw [h]
theorem pow_le (k : Nat) (h : k ≤ 17) : (10 : Int) ^ k ≤ 100000000000000000 := by
  have h1 : 10 ^ k ≤ 10 ^ 17 := Nat.pow_le_pow_right (by omega) h
  have h2 : ((10 ^ k : Nat) : Int) ≤ ((10 ^ 17 : Nat) : Int) := by exact_mod_cast h1
  simpa using h2
theorem emp_b {s : ByteArray} (h : 0 < s.size) : s.toList.isEmpty = false := takes.emp_no h

set_option maxRecDepth 100000 in
set_option maxHeartbeats 3000000 in
theorem count_any (s : ByteArray) (size : Nat) (top : Int) (w : World) (hs : s.size ≤ maxLen) (hsz : size ≤ 17) :
    Calls Tryd.prog 20 #[.string s, .int .i64 (size : Int), .int .i64 top] w fun e w' => e = .returned (.int .i64 (countS s.data.toList size top)) ∧ w' = w := by
  by_cases h0 : s.size = 0
  · have hl := Lib.hid (count_out (l := s.data.toList) (size := size) (top := top) (.inl (List.eq_nil_of_length_eq_zero (by rw [size_len]; exact h0))))
    obtain rfl : s = ByteArray.empty := by
      apply ba_ext; rw [List.eq_nil_of_length_eq_zero (l := s.data.toList) (by rw [size_len]; exact h0)]; rfl
    go_enter Tryd.func20, Tryd.ntmps20
    go_wp2_with fail
    go_ret
    exact ⟨ret_i hl.out.symm, rfl⟩
  have h1 : 0 < s.size := by omega
  have hem := emp_b h1
  by_cases h2 : size < s.size
  · have hl := Lib.hid (count_out (l := s.data.toList) (size := size) (top := top) (.inr (by rw [size_len]; exact h2)))
    have h2i : (size : Int) < (s.size : Int) := by omega
    have h1i : (1 : Int) ≤ (s.size : Int) := by omega
    go_enter Tryd.func20, Tryd.ntmps20
    go_wp2_with fail
    go_ret
    exact ⟨ret_i hl.out.symm, rfl⟩
  obtain ⟨R, hR⟩ : ∃ R, numS 0 s.data.toList = R := ⟨_, rfl⟩
  have HF := Lib.hid (count_in (size := size) (top := top) (fun e => by have h := size_len s; rw [e] at h; simp at h; omega) (by rw [size_len]; omega) hR)
  have HR : Hid (numS 0 (s.data.toList.drop 0) = R) := Lib.hid (by rw [List.drop_zero]; exact hR)
  have h2i : (s.size : Int) ≤ (size : Int) := by omega
  have h1i : (1 : Int) ≤ (s.size : Int) := by omega
  have hs17 : s.size ≤ 17 := by omega
  have hb8 : decide (size < s.size) = false := by rw [decide_eq_false_iff_not]; omega
  have hb9 : decide ((s.size : Int) < 1) = false := by rw [decide_eq_false_iff_not]; omega
  rw [HF.out]
  obtain ⟨C, hC⟩ : ∃ C, (if top < R then (-1 : Int) else R) = C := ⟨_, rfl⟩
  rw [hC]
  have HC := Lib.hid hC
  clear hR h0 h2 HF hC
  go_enter Tryd.func20, Tryd.ntmps20
  go_wp2_with fail
  go_loopg [7, 20] (s.size + 1) (fun gas vv kv wr => ∃ (k : Nat) (v : Int), vv = .int .i64 v ∧ kv = .int .i64 (k : Int) ∧ k ≤ s.size ∧ k + gas = s.size + 1 ∧ 0 ≤ v ∧ Hid (v < 10 ^ k) ∧ Hid (numS v (s.data.toList.drop k) = R) ∧ w = wr)
  case atStart => exact ⟨0, 0, rfl, rfl, by omega, by omega, by omega, Lib.hid (by decide), HR, rfl⟩
  case round =>
    obtain ⟨k, v, rfl, rfl, hk, hkg, hv0, HV, HN, rfl⟩ := hrel
    have HG := Lib.hid hkg
    clear hkg
    by_cases hlt : k < s.size
    · have hd := Lib.hid (drop_cons s k hlt)
      have hvb : v ≤ 100000000000000000 := by have h1 := HV.out; have h2 := pow_le k (by omega); omega
      have zk : (0 : Int) ≤ (k : Int) := by omega
      have zl : (k : Int) < (s.size : Int) := by omega
      by_cases hlo : s[k].toNat < 48
      · have hF : Hid (R = -1) := Lib.hid (HN.out.symm.trans ((congrArg (numS v) hd.out).trans (num_no (.inl hlo))))
        have hi : (s[k].toNat : Int) < 48 := by omega
        have hb : decide (s[k].toNat < 48) = true := by rw [decide_eq_true_eq]; exact hlo
        go_wp2_with fail
        go_ret
        exact ⟨ret_i (by rw [← HC.out, hF.out]; try (split <;> rfl)), rfl⟩
      by_cases hhi : 57 < s[k].toNat
      · have hF : Hid (R = -1) := Lib.hid (HN.out.symm.trans ((congrArg (numS v) hd.out).trans (num_no (.inr hhi))))
        have hi : (57 : Int) < (s[k].toNat : Int) := by omega
        have hi2 : (48 : Int) ≤ (s[k].toNat : Int) := by omega
        have hb : decide (s[k].toNat < 48) = false := by rw [decide_eq_false_iff_not]; exact hlo
        have hb2 : decide (57 < s[k].toNat) = true := by rw [decide_eq_true_eq]; exact hhi
        go_wp2_with fail
        go_ret
        exact ⟨ret_i (by rw [← HC.out, hF.out]; try (split <;> rfl)), rfl⟩
      · have hF := Lib.hid ((num_yes (v := v) (r := s.data.toList.drop (k + 1)) (by omega : 48 ≤ s[k].toNat) (by omega)).symm.trans ((congrArg (numS v) hd.out).symm.trans HN.out))
        have hi : (s[k].toNat : Int) ≤ 57 := by omega
        have hi2 : (48 : Int) ≤ (s[k].toNat : Int) := by omega
        have hb : decide (s[k].toNat < 48) = false := by rw [decide_eq_false_iff_not]; exact hlo
        have hb2 : decide (57 < s[k].toNat) = false := by rw [decide_eq_false_iff_not]; exact hhi
        have HV2 : Hid (v * 10 + ((s[k].toNat : Int) - 48) < 10 ^ (k + 1)) := Lib.hid (by have := HV.out; rw [Int.pow_succ]; omega)
        obtain ⟨V, hV⟩ : ∃ V, v * 10 + ((s[k].toNat : Int) - 48) = V := ⟨_, rfl⟩
        have hV0 : 0 ≤ V := by omega
        rw [hV] at HV2 hF
        have HE := Lib.hid hV
        clear hlo hhi hV
        go_wp2_with fail
        have hkg := HG.out
        have hV := HE.out
        go_roundg (gk - 1)
        case rel => exact ⟨k + 1, V, (congrArg (Value.int .i64) (by omega)), by go_num, by omega, by omega, hV0, HV2, hF, rfl⟩
        case measure => omega
    · have hF : Hid (R = v) := Lib.hid (by rw [← HN.out, List.drop_of_length_le (by rw [size_len]; omega)]; rfl)
      have HW := Lib.hid HV
      by_cases ht : top < v
      · go_wp2_with fail
        go_ret
        exact ⟨ret_i (by rw [← HC.out, hF.out, if_pos ht]), rfl⟩
      · have ht2 : v ≤ top := by omega
        go_wp2_with fail
        go_ret
        exact ⟨ret_i (by rw [← HC.out, hF.out, if_neg (by omega)]), rfl⟩

set_option maxRecDepth 100000 in
set_option maxHeartbeats 3000000 in
theorem number_any (s : ByteArray) (size : Nat) (top : Int) (w : World) (hs : s.size ≤ maxLen) (hsz : size ≤ 17) :
    Calls Tryd.prog 22 #[.string s, .int .i64 (size : Int), .int .i64 top] w fun e w' => e = .returned (.int .i64 (countS s.data.toList size top)) ∧ w' = w := by
  by_cases h0 : s.size = 0
  · have hl := Lib.hid (count_out (l := s.data.toList) (size := size) (top := top) (.inl (List.eq_nil_of_length_eq_zero (by rw [size_len]; exact h0))))
    obtain rfl : s = ByteArray.empty := by
      apply ba_ext; rw [List.eq_nil_of_length_eq_zero (l := s.data.toList) (by rw [size_len]; exact h0)]; rfl
    go_enter Tryd.func22, Tryd.ntmps22
    go_wp2_with fail
    go_ret
    exact ⟨ret_i hl.out.symm, rfl⟩
  have h1 : 0 < s.size := by omega
  have hem := emp_b h1
  by_cases h2 : size < s.size
  · have hl := Lib.hid (count_out (l := s.data.toList) (size := size) (top := top) (.inr (by rw [size_len]; exact h2)))
    have h2i : (size : Int) < (s.size : Int) := by omega
    have h1i : (1 : Int) ≤ (s.size : Int) := by omega
    go_enter Tryd.func22, Tryd.ntmps22
    go_wp2_with fail
    go_ret
    exact ⟨ret_i hl.out.symm, rfl⟩
  obtain ⟨R, hR⟩ : ∃ R, numS 0 s.data.toList = R := ⟨_, rfl⟩
  have HF := Lib.hid (count_in (size := size) (top := top) (fun e => by have h := size_len s; rw [e] at h; simp at h; omega) (by rw [size_len]; omega) hR)
  have HR : Hid (numS 0 (s.data.toList.drop 0) = R) := Lib.hid (by rw [List.drop_zero]; exact hR)
  have h2i : (s.size : Int) ≤ (size : Int) := by omega
  have h1i : (1 : Int) ≤ (s.size : Int) := by omega
  have hs17 : s.size ≤ 17 := by omega
  have hb8 : decide (size < s.size) = false := by rw [decide_eq_false_iff_not]; omega
  have hb9 : decide ((s.size : Int) < 1) = false := by rw [decide_eq_false_iff_not]; omega
  rw [HF.out]
  obtain ⟨C, hC⟩ : ∃ C, (if top < R then (-1 : Int) else R) = C := ⟨_, rfl⟩
  rw [hC]
  have HC := Lib.hid hC
  clear hR h0 h2 HF hC
  go_enter Tryd.func22, Tryd.ntmps22
  go_wp2_with fail
  go_loopg [7, 8] (s.size + 1) (fun gas vv kv wr => ∃ (k : Nat) (v : Int), vv = .int .i64 v ∧ kv = .int .i64 (k : Int) ∧ k ≤ s.size ∧ k + gas = s.size + 1 ∧ 0 ≤ v ∧ Hid (v < 10 ^ k) ∧ Hid (numS v (s.data.toList.drop k) = R) ∧ w = wr)
  case atStart => exact ⟨0, 0, rfl, rfl, by omega, by omega, by omega, Lib.hid (by decide), HR, rfl⟩
  case round =>
    obtain ⟨k, v, rfl, rfl, hk, hkg, hv0, HV, HN, rfl⟩ := hrel
    have HG := Lib.hid hkg
    clear hkg
    by_cases hlt : k < s.size
    · have hd := Lib.hid (drop_cons s k hlt)
      have hvb : v ≤ 100000000000000000 := by have h1 := HV.out; have h2 := pow_le k (by omega); omega
      have zk : (0 : Int) ≤ (k : Int) := by omega
      have zl : (k : Int) < (s.size : Int) := by omega
      by_cases hlo : s[k].toNat < 48
      · have hF : Hid (R = -1) := Lib.hid (HN.out.symm.trans ((congrArg (numS v) hd.out).trans (num_no (.inl hlo))))
        have hi : (s[k].toNat : Int) < 48 := by omega
        have hb : decide (s[k].toNat < 48) = true := by rw [decide_eq_true_eq]; exact hlo
        go_wp2_with fail
        go_ret
        exact ⟨ret_i (by rw [← HC.out, hF.out]; try (split <;> rfl)), rfl⟩
      by_cases hhi : 57 < s[k].toNat
      · have hF : Hid (R = -1) := Lib.hid (HN.out.symm.trans ((congrArg (numS v) hd.out).trans (num_no (.inr hhi))))
        have hi : (57 : Int) < (s[k].toNat : Int) := by omega
        have hi2 : (48 : Int) ≤ (s[k].toNat : Int) := by omega
        have hb : decide (s[k].toNat < 48) = false := by rw [decide_eq_false_iff_not]; exact hlo
        have hb2 : decide (57 < s[k].toNat) = true := by rw [decide_eq_true_eq]; exact hhi
        go_wp2_with fail
        go_ret
        exact ⟨ret_i (by rw [← HC.out, hF.out]; try (split <;> rfl)), rfl⟩
      · have hF := Lib.hid ((num_yes (v := v) (r := s.data.toList.drop (k + 1)) (by omega : 48 ≤ s[k].toNat) (by omega)).symm.trans ((congrArg (numS v) hd.out).symm.trans HN.out))
        have hi : (s[k].toNat : Int) ≤ 57 := by omega
        have hi2 : (48 : Int) ≤ (s[k].toNat : Int) := by omega
        have hb : decide (s[k].toNat < 48) = false := by rw [decide_eq_false_iff_not]; exact hlo
        have hb2 : decide (57 < s[k].toNat) = false := by rw [decide_eq_false_iff_not]; exact hhi
        have HV2 : Hid (v * 10 + ((s[k].toNat : Int) - 48) < 10 ^ (k + 1)) := Lib.hid (by have := HV.out; rw [Int.pow_succ]; omega)
        obtain ⟨V, hV⟩ : ∃ V, v * 10 + ((s[k].toNat : Int) - 48) = V := ⟨_, rfl⟩
        have hV0 : 0 ≤ V := by omega
        rw [hV] at HV2 hF
        have HE := Lib.hid hV
        clear hlo hhi hV
        go_wp2_with fail
        have hkg := HG.out
        have hV := HE.out
        go_roundg (gk - 1)
        case rel => exact ⟨k + 1, V, (congrArg (Value.int .i64) (by omega)), by go_num, by omega, by omega, hV0, HV2, hF, rfl⟩
        case measure => omega
    · have hF : Hid (R = v) := Lib.hid (by rw [← HN.out, List.drop_of_length_le (by rw [size_len]; omega)]; rfl)
      have HW := Lib.hid HV
      by_cases ht : top < v
      · go_wp2_with fail
        go_ret
        exact ⟨ret_i (by rw [← HC.out, hF.out, if_pos ht]), rfl⟩
      · have ht2 : v ≤ top := by omega
        go_wp2_with fail
        go_ret
        exact ⟨ret_i (by rw [← HC.out, hF.out, if_neg (by omega)]), rfl⟩
end Go.Proofs.YtjejmgdpjfdhjaaDoor.cnt
