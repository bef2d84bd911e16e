/- Names of types: plain, and the walks of data.TypeName and gazetteerref1.TypeName. Numbers that are written: plain; walks of data.count and gazetteerref1.Number. gazetteerref1.TypeOf: plain and walk. -/
import Derived.Test.YtkcpbjoolfojjaaGreatDoorP11
import Derived.Test.YtkcpbjoolfojjaaGreatDoorShelf
import Derived.Test.YtkcpbjoolfojjaaGreatDoorP2
import Derived.Lib.ItoaNum
import Derived.Deep.RegionWith
namespace Go.Proofs.YtkcpbjoolfojjaaGreatDoor.tname
open Go.RowKit Go.Proofs.YtkcpbjoolfojjaaGreatDoor.kit
set_option linter.unusedVariables false
abbrev Bt := List UInt8
/-- the types that have a word -/
def mnemL : List (Int × Bt) := [(1, [65]), (2, [78, 83]), (5, [67, 78, 65, 77, 69]), (6, [83, 79, 65]), (12, [80, 84, 82]), (13, [72, 73, 78, 70, 79]), (15, [77, 88]), (16, [84, 88, 84]), (28, [65, 65, 65, 65]), (33, [83, 82, 86]), (35, [78, 65, 80, 84, 82]), (39, [68, 78, 65, 77, 69]), (41, [79, 80, 84]), (43, [68, 83]), (46, [82, 82, 83, 73, 71]), (47, [78, 83, 69, 67]), (48, [68, 78, 83, 75, 69, 89]), (50, [78, 83, 69, 67, 51]), (51, [78, 83, 69, 67, 51, 80, 65, 82, 65, 77]), (251, [73, 88, 70, 82]), (252, [65, 88, 70, 82]), (255, [65, 78, 89]), (257, [67, 65, 65])]
def mnemS (t : Int) : Bt := ((mnemL.find? (·.1 == t)).map (·.2)).getD []
def tnameS (t : Int) : Bt := if (mnemS t).isEmpty then (if t < 1 ∨ 65535 < t then [] else [84, 89, 80, 69] ++ Lib.itoa t) else mnemS t
theorem mnem_no {t : Int} (h1 : t ≠ 1) (h2 : t ≠ 2) (h5 : t ≠ 5) (h6 : t ≠ 6) (h12 : t ≠ 12) (h13 : t ≠ 13) (h15 : t ≠ 15) (h16 : t ≠ 16) (h28 : t ≠ 28) (h33 : t ≠ 33) (h35 : t ≠ 35) (h39 : t ≠ 39) (h41 : t ≠ 41) (h43 : t ≠ 43) (h46 : t ≠ 46) (h47 : t ≠ 47) (h48 : t ≠ 48) (h50 : t ≠ 50) (h51 : t ≠ 51) (h251 : t ≠ 251) (h252 : t ≠ 252) (h255 : t ≠ 255) (h257 : t ≠ 257) : mnemS t = [] := by
  simp [mnemS, mnemL, Ne.symm h1, Ne.symm h2, Ne.symm h5, Ne.symm h6, Ne.symm h12, Ne.symm h13, Ne.symm h15, Ne.symm h16, Ne.symm h28, Ne.symm h33, Ne.symm h35, Ne.symm h39, Ne.symm h41, Ne.symm h43, Ne.symm h46, Ne.symm h47, Ne.symm h48, Ne.symm h50, Ne.symm h51, Ne.symm h251, Ne.symm h252, Ne.symm h255, Ne.symm h257]
theorem mnem_cases (t : Int) : t = 1 ∨ t = 2 ∨ t = 5 ∨ t = 6 ∨ t = 12 ∨ t = 13 ∨ t = 15 ∨ t = 16 ∨ t = 28 ∨ t = 33 ∨ t = 35 ∨ t = 39 ∨ t = 41 ∨ t = 43 ∨ t = 46 ∨ t = 47 ∨ t = 48 ∨ t = 50 ∨ t = 51 ∨ t = 251 ∨ t = 252 ∨ t = 255 ∨ t = 257 ∨ (t ≠ 1 ∧ t ≠ 2 ∧ t ≠ 5 ∧ t ≠ 6 ∧ t ≠ 12 ∧ t ≠ 13 ∧ t ≠ 15 ∧ t ≠ 16 ∧ t ≠ 28 ∧ t ≠ 33 ∧ t ≠ 35 ∧ t ≠ 39 ∧ t ≠ 41 ∧ t ≠ 43 ∧ t ≠ 46 ∧ t ≠ 47 ∧ t ≠ 48 ∧ t ≠ 50 ∧ t ≠ 51 ∧ t ≠ 251 ∧ t ≠ 252 ∧ t ≠ 255 ∧ t ≠ 257) := by
  omega
theorem dec_len : ∀ (k u : Nat), u < 10 ^ (k + 1) → (Lib.decDigits u).length ≤ k + 1
  | 0, u, h => by
    rw [Lib.decDigits]
    simp only [show u < 10 by omega, dite_true, List.length_singleton]; omega
  | k + 1, u, h => by
    rw [Lib.decDigits]
    split
    · simp
    · have := dec_len k (u / 10) (by rw [Nat.pow_succ] at h; omega)
      simp; omega

theorem dec_base {v : Nat} (h : v < 10) : Lib.decDigits v = [UInt8.ofNat (48 + v)] := by rw [Lib.decDigits, dif_pos h]
theorem dec_step {v : Nat} (h : ¬ v < 10) : Lib.decDigits v = Lib.decDigits (v / 10) ++ [UInt8.ofNat (48 + v % 10)] := by rw [Lib.decDigits, dif_neg h]
theorem below_growD (w : World) (k : Nat) (os : Array Obj) : Below w.heap.size w (Go.Sort.grow (w.drewN k) os) := by
  refine ⟨rfl, rfl, rfl, ?_, fun i hi => ?_⟩
  · simp [Go.Sort.grow, World.drewN]
  · simp [Go.Sort.grow, World.drewN, Array.getElem?_append_left hi]
open Go.Lib in
theorem digits_any (n : Int) (h0 : -9223372036854775808 ≤ n) (h1 : n ≤ 9223372036854775807) (w : World) (htab : Lib.TabIs Tryz.prog w "internal/strconv.uint64pow10" .u64 Lib.pow10Tab) :
    Calls Tryz.prog 28 #[.int .i64 n] w fun e w' => e = .returned (.string ⟨(Lib.itoa n).toArray⟩) ∧ Below w.heap.size w w' := by
  have CI := Lib.hid (Tryz.strconv_Itoa n h0 h1 w htab)
  clear htab
  go_enter Tryz.func28, Tryz.ntmps28
  go_wp2_with (go_at_call 57; refine CI.out.mono ?_; rintro e w1 ⟨rfl, k, os, rfl⟩)
  go_ret
  refine ⟨rfl, ?_⟩
  exact below_growD _ _ _
theorem tname_yes {t : Int} {n : Bt} (h : mnemS t = n) (hn : n.isEmpty = false) : tnameS t = n := by
  unfold tnameS; rw [h, hn]; rfl
theorem tname_out {t : Int} (h : mnemS t = []) (ho : t < 1 ∨ 65535 < t) : tnameS t = [] := by
  unfold tnameS; rw [h]; simp [ho]
theorem tname_in {t : Int} (h : mnemS t = []) (h1 : 1 ≤ t) (h2 : t ≤ 65535) : tnameS t = [84, 89, 80, 69] ++ Lib.itoa t := by
  unfold tnameS; rw [h]; show (if t < 1 ∨ 65535 < t then ([] : Bt) else _) = _; rw [if_neg (by omega)]
theorem itoa_nat {t : Int} (h : 0 ≤ t) : Lib.itoa t = Lib.decDigits t.toNat := by unfold Lib.itoa; rw [if_neg (by omega)]
theorem itoa_len {t : Int} (h : 0 ≤ t) (h2 : t ≤ 65535) : (Lib.itoa t).length ≤ 5 := by
  rw [itoa_nat h]; exact dec_len 4 _ (by omega)
set_option maxRecDepth 100000 in
set_option maxHeartbeats 4000000 in
theorem dtname_any (t : Int) (h0 : -9223372036854775808 ≤ t) (h1 : t ≤ 9223372036854775807) (w : World) (htab : Lib.TabIs Tryz.prog w "internal/strconv.uint64pow10" .u64 Lib.pow10Tab) :
    Calls Tryz.prog 13 #[.int .i64 t] w fun e w' => e = .returned (.string ⟨(tnameS t).toArray⟩) ∧ Below w.heap.size w w' := by
  have CD := Lib.hid (digits_any t h0 h1 w htab)
  clear htab
  rcases mnem_cases t with rfl | rfl | rfl | rfl | rfl | rfl | rfl | rfl | rfl | rfl | rfl | rfl | rfl | rfl | rfl | rfl | rfl | rfl | rfl | rfl | rfl | rfl | rfl | ⟨h1, h2, h5, h6, h12, h13, h15, h16, h28, h33, h35, h39, h41, h43, h46, h47, h48, h50, h51, h251, h252, h255, h257⟩
  · clear CD
    rw [tname_yes (n := [65]) rfl rfl]
    go_enter Tryz.func13, Tryz.ntmps13
    go_wp2_with fail
    go_ret
    exact ⟨rfl, Below.refl _ _⟩
  · clear CD
    rw [tname_yes (n := [78, 83]) rfl rfl]
    go_enter Tryz.func13, Tryz.ntmps13
    go_wp2_with fail
    go_ret
    exact ⟨rfl, Below.refl _ _⟩
  · clear CD
    rw [tname_yes (n := [67, 78, 65, 77, 69]) rfl rfl]
    go_enter Tryz.func13, Tryz.ntmps13
    go_wp2_with fail
    go_ret
    exact ⟨rfl, Below.refl _ _⟩
  · clear CD
    rw [tname_yes (n := [83, 79, 65]) rfl rfl]
    go_enter Tryz.func13, Tryz.ntmps13
    go_wp2_with fail
    go_ret
    exact ⟨rfl, Below.refl _ _⟩
  · clear CD
    rw [tname_yes (n := [80, 84, 82]) rfl rfl]
    go_enter Tryz.func13, Tryz.ntmps13
    go_wp2_with fail
    go_ret
    exact ⟨rfl, Below.refl _ _⟩
  · clear CD
    rw [tname_yes (n := [72, 73, 78, 70, 79]) rfl rfl]
    go_enter Tryz.func13, Tryz.ntmps13
    go_wp2_with fail
    go_ret
    exact ⟨rfl, Below.refl _ _⟩
  · clear CD
    rw [tname_yes (n := [77, 88]) rfl rfl]
    go_enter Tryz.func13, Tryz.ntmps13
    go_wp2_with fail
    go_ret
    exact ⟨rfl, Below.refl _ _⟩
  · clear CD
    rw [tname_yes (n := [84, 88, 84]) rfl rfl]
    go_enter Tryz.func13, Tryz.ntmps13
    go_wp2_with fail
    go_ret
    exact ⟨rfl, Below.refl _ _⟩
  · clear CD
    rw [tname_yes (n := [65, 65, 65, 65]) rfl rfl]
    go_enter Tryz.func13, Tryz.ntmps13
    go_wp2_with fail
    go_ret
    exact ⟨rfl, Below.refl _ _⟩
  · clear CD
    rw [tname_yes (n := [83, 82, 86]) rfl rfl]
    go_enter Tryz.func13, Tryz.ntmps13
    go_wp2_with fail
    go_ret
    exact ⟨rfl, Below.refl _ _⟩
  · clear CD
    rw [tname_yes (n := [78, 65, 80, 84, 82]) rfl rfl]
    go_enter Tryz.func13, Tryz.ntmps13
    go_wp2_with fail
    go_ret
    exact ⟨rfl, Below.refl _ _⟩
  · clear CD
    rw [tname_yes (n := [68, 78, 65, 77, 69]) rfl rfl]
    go_enter Tryz.func13, Tryz.ntmps13
    go_wp2_with fail
    go_ret
    exact ⟨rfl, Below.refl _ _⟩
  · clear CD
    rw [tname_yes (n := [79, 80, 84]) rfl rfl]
    go_enter Tryz.func13, Tryz.ntmps13
    go_wp2_with fail
    go_ret
    exact ⟨rfl, Below.refl _ _⟩
  · clear CD
    rw [tname_yes (n := [68, 83]) rfl rfl]
    go_enter Tryz.func13, Tryz.ntmps13
    go_wp2_with fail
    go_ret
    exact ⟨rfl, Below.refl _ _⟩
  · clear CD
    rw [tname_yes (n := [82, 82, 83, 73, 71]) rfl rfl]
    go_enter Tryz.func13, Tryz.ntmps13
    go_wp2_with fail
    go_ret
    exact ⟨rfl, Below.refl _ _⟩
  · clear CD
    rw [tname_yes (n := [78, 83, 69, 67]) rfl rfl]
    go_enter Tryz.func13, Tryz.ntmps13
    go_wp2_with fail
    go_ret
    exact ⟨rfl, Below.refl _ _⟩
  · clear CD
    rw [tname_yes (n := [68, 78, 83, 75, 69, 89]) rfl rfl]
    go_enter Tryz.func13, Tryz.ntmps13
    go_wp2_with fail
    go_ret
    exact ⟨rfl, Below.refl _ _⟩
  · clear CD
    rw [tname_yes (n := [78, 83, 69, 67, 51]) rfl rfl]
    go_enter Tryz.func13, Tryz.ntmps13
    go_wp2_with fail
    go_ret
    exact ⟨rfl, Below.refl _ _⟩
  · clear CD
    rw [tname_yes (n := [78, 83, 69, 67, 51, 80, 65, 82, 65, 77]) rfl rfl]
    go_enter Tryz.func13, Tryz.ntmps13
    go_wp2_with fail
    go_ret
    exact ⟨rfl, Below.refl _ _⟩
  · clear CD
    rw [tname_yes (n := [73, 88, 70, 82]) rfl rfl]
    go_enter Tryz.func13, Tryz.ntmps13
    go_wp2_with fail
    go_ret
    exact ⟨rfl, Below.refl _ _⟩
  · clear CD
    rw [tname_yes (n := [65, 88, 70, 82]) rfl rfl]
    go_enter Tryz.func13, Tryz.ntmps13
    go_wp2_with fail
    go_ret
    exact ⟨rfl, Below.refl _ _⟩
  · clear CD
    rw [tname_yes (n := [65, 78, 89]) rfl rfl]
    go_enter Tryz.func13, Tryz.ntmps13
    go_wp2_with fail
    go_ret
    exact ⟨rfl, Below.refl _ _⟩
  · clear CD
    rw [tname_yes (n := [67, 65, 65]) rfl rfl]
    go_enter Tryz.func13, Tryz.ntmps13
    go_wp2_with fail
    go_ret
    exact ⟨rfl, Below.refl _ _⟩
  · have hm := Lib.hid (mnem_no h1 h2 h5 h6 h12 h13 h15 h16 h28 h33 h35 h39 h41 h43 h46 h47 h48 h50 h51 h251 h252 h255 h257)
    have b1 : (t == 1) = false := by rw [beq_eq_false_iff_ne]; exact h1
    have b2 : (t == 2) = false := by rw [beq_eq_false_iff_ne]; exact h2
    have b5 : (t == 5) = false := by rw [beq_eq_false_iff_ne]; exact h5
    have b6 : (t == 6) = false := by rw [beq_eq_false_iff_ne]; exact h6
    have b12 : (t == 12) = false := by rw [beq_eq_false_iff_ne]; exact h12
    have b13 : (t == 13) = false := by rw [beq_eq_false_iff_ne]; exact h13
    have b15 : (t == 15) = false := by rw [beq_eq_false_iff_ne]; exact h15
    have b16 : (t == 16) = false := by rw [beq_eq_false_iff_ne]; exact h16
    have b28 : (t == 28) = false := by rw [beq_eq_false_iff_ne]; exact h28
    have b33 : (t == 33) = false := by rw [beq_eq_false_iff_ne]; exact h33
    have b35 : (t == 35) = false := by rw [beq_eq_false_iff_ne]; exact h35
    have b39 : (t == 39) = false := by rw [beq_eq_false_iff_ne]; exact h39
    have b41 : (t == 41) = false := by rw [beq_eq_false_iff_ne]; exact h41
    have b43 : (t == 43) = false := by rw [beq_eq_false_iff_ne]; exact h43
    have b46 : (t == 46) = false := by rw [beq_eq_false_iff_ne]; exact h46
    have b47 : (t == 47) = false := by rw [beq_eq_false_iff_ne]; exact h47
    have b48 : (t == 48) = false := by rw [beq_eq_false_iff_ne]; exact h48
    have b50 : (t == 50) = false := by rw [beq_eq_false_iff_ne]; exact h50
    have b51 : (t == 51) = false := by rw [beq_eq_false_iff_ne]; exact h51
    have b251 : (t == 251) = false := by rw [beq_eq_false_iff_ne]; exact h251
    have b252 : (t == 252) = false := by rw [beq_eq_false_iff_ne]; exact h252
    have b255 : (t == 255) = false := by rw [beq_eq_false_iff_ne]; exact h255
    have b257 : (t == 257) = false := by rw [beq_eq_false_iff_ne]; exact h257
    clear h1 h2 h5 h6 h12 h13 h15 h16 h28 h33 h35 h39 h41 h43 h46 h47 h48 h50 h51 h251 h252 h255 h257
    by_cases hlo : t < 1
    · rw [tname_out hm.out (.inl hlo)]
      clear CD
      go_enter Tryz.func13, Tryz.ntmps13
      go_wp2_with fail
      go_ret
      exact ⟨rfl, Below.refl _ _⟩
    by_cases hhi : 65535 < t
    · rw [tname_out hm.out (.inr hhi)]
      have hlo2 : 1 ≤ t := by omega
      clear CD
      go_enter Tryz.func13, Tryz.ntmps13
      go_wp2_with fail
      go_ret
      exact ⟨rfl, Below.refl _ _⟩
    · have hlo2 : 1 ≤ t := by omega
      have hhi2 : t ≤ 65535 := by omega
      have hF := Lib.hid (tname_in hm.out hlo2 hhi2)
      obtain ⟨D, hD⟩ : ∃ D : ByteArray, (⟨(Lib.itoa t).toArray⟩ : ByteArray) = D := ⟨_, rfl⟩
      have hDs : D.size ≤ 5 := by rw [← hD, mk_size]; exact itoa_len (by omega) hhi2
      have hFD : Hid ((⟨(tnameS t).toArray⟩ : ByteArray) = ⟨#[84, 89, 80, 69]⟩ ++ D) := Lib.hid (by rw [hF.out, ← hD]; exact ba_ext (by simp))
      rw [hD] at CD
      clear hD hlo hhi
      go_enter Tryz.func13, Tryz.ntmps13
      go_wp2_with (go_at_call 28; refine CD.out.mono ?_; rintro e w1 ⟨rfl, hB1⟩)
      go_ret
      rw [hFD.out]
      exact ⟨rfl, hB1⟩
end Go.Proofs.YtkcpbjoolfojjaaGreatDoor.tname
namespace Go.Proofs.YtkcpbjoolfojjaaGreatDoor.cnt
open Go.RowKit Go.Proofs.YtkcpbjoolfojjaaGreatDoor.kit
set_option linter.unusedVariables false
abbrev Bt := List UInt8
def digB (c : UInt8) : Bool := 48 ≤ c.toNat && c.toNat ≤ 57
def numS : Int → Bt → Int
  | v, [] => v
  | v, c :: r => if digB c then numS (v * 10 + ((c.toNat : Int) - 48)) r else -1
def countS (l : Bt) (size : Nat) (top : Int) : Int := if l = [] ∨ size < l.length then -1 else if top < numS 0 l then -1 else numS 0 l
theorem count_out {l : Bt} {size : Nat} {top : Int} (h : l = [] ∨ size < l.length) : countS l size top = -1 := by unfold countS; rw [if_pos h]
theorem count_in {l : Bt} {size : Nat} {top R : Int} (h1 : l ≠ []) (h2 : l.length ≤ size) (hR : numS 0 l = R) : countS l size top = if top < R then -1 else R := by unfold countS; rw [if_neg (by simp [h1]; omega), hR]
theorem num_end {v : Int} : numS v [] = v := rfl
theorem num_yes {v : Int} {c : UInt8} {r : Bt} (h1 : 48 ≤ c.toNat) (h2 : c.toNat ≤ 57) : numS v (c :: r) = numS (v * 10 + ((c.toNat : Int) - 48)) r := by
  simp [numS, digB, h1, h2]
theorem num_no {v : Int} {c : UInt8} {r : Bt} (h : c.toNat < 48 ∨ 57 < c.toNat) : numS v (c :: r) = -1 := by
  have : digB c = false := by unfold digB; simp; omega
  simp [numS, this]
theorem ret_i {a b : Int} (h : a = b) : Ending.returned (.int .i64 a) = .returned (.int .i64 b) := by rw [h]
theorem pow_le (k : Nat) (h : k ≤ 17) : (10 : Int) ^ k ≤ 100000000000000000 := by
  have h1 : 10 ^ k ≤ 10 ^ 17 := Nat.pow_le_pow_right (by omega) h
  have h2 : ((10 ^ k : Nat) : Int) ≤ ((10 ^ 17 : Nat) : Int) := by exact_mod_cast h1
  simpa using h2
theorem emp_b {s : ByteArray} (h : 0 < s.size) : s.toList.isEmpty = false := takes.emp_no h

set_option maxRecDepth 100000 in
set_option maxHeartbeats 3000000 in
theorem count_any (s : ByteArray) (size : Nat) (top : Int) (w : World) (hs : s.size ≤ maxLen) (hsz : size ≤ 17) :
    Calls Tryz.prog 37 #[.string s, .int .i64 (size : Int), .int .i64 top] w fun e w' => e = .returned (.int .i64 (countS s.data.toList size top)) ∧ w' = w := by
  by_cases h0 : s.size = 0
  · have hl := Lib.hid (count_out (l := s.data.toList) (size := size) (top := top) (.inl (List.eq_nil_of_length_eq_zero (by rw [size_len]; exact h0))))
    obtain rfl : s = ByteArray.empty := by
      apply ba_ext; rw [List.eq_nil_of_length_eq_zero (l := s.data.toList) (by rw [size_len]; exact h0)]; rfl
    go_enter Tryz.func37, Tryz.ntmps37
    go_wp2_with fail
    go_ret
    exact ⟨ret_i hl.out.symm, rfl⟩
  have h1 : 0 < s.size := by omega
  have hem := emp_b h1
  by_cases h2 : size < s.size
  · have hl := Lib.hid (count_out (l := s.data.toList) (size := size) (top := top) (.inr (by rw [size_len]; exact h2)))
    have h2i : (size : Int) < (s.size : Int) := by omega
    have h1i : (1 : Int) ≤ (s.size : Int) := by omega
    go_enter Tryz.func37, Tryz.ntmps37
    go_wp2_with fail
    go_ret
    exact ⟨ret_i hl.out.symm, rfl⟩
  obtain ⟨R, hR⟩ : ∃ R, numS 0 s.data.toList = R := ⟨_, rfl⟩
  have HF := Lib.hid (count_in (size := size) (top := top) (fun e => by have h := size_len s; rw [e] at h; simp at h; omega) (by rw [size_len]; omega) hR)
  have HR : Hid (numS 0 (s.data.toList.drop 0) = R) := Lib.hid (by rw [List.drop_zero]; exact hR)
  have h2i : (s.size : Int) ≤ (size : Int) := by omega
  have h1i : (1 : Int) ≤ (s.size : Int) := by omega
  have hs17 : s.size ≤ 17 := by omega
  have hb8 : decide (size < s.size) = false := by rw [decide_eq_false_iff_not]; omega
  have hb9 : decide ((s.size : Int) < 1) = false := by rw [decide_eq_false_iff_not]; omega
  rw [HF.out]
  obtain ⟨C, hC⟩ : ∃ C, (if top < R then (-1 : Int) else R) = C := ⟨_, rfl⟩
  rw [hC]
  have HC := Lib.hid hC
  clear hR h0 h2 HF hC
  go_enter Tryz.func37, Tryz.ntmps37
  go_wp2_with fail
  go_loopg [7, 20] (s.size + 1) (fun gas vv kv wr => ∃ (k : Nat) (v : Int), vv = .int .i64 v ∧ kv = .int .i64 (k : Int) ∧ k ≤ s.size ∧ k + gas = s.size + 1 ∧ 0 ≤ v ∧ Hid (v < 10 ^ k) ∧ Hid (numS v (s.data.toList.drop k) = R) ∧ w = wr)
  case atStart => exact ⟨0, 0, rfl, rfl, by omega, by omega, by omega, Lib.hid (by decide), HR, rfl⟩
  case round =>
    obtain ⟨k, v, rfl, rfl, hk, hkg, hv0, HV, HN, rfl⟩ := hrel
    have HG := Lib.hid hkg
    clear hkg
    by_cases hlt : k < s.size
    · have hd := Lib.hid (drop_cons s k hlt)
      have hvb : v ≤ 100000000000000000 := by have h1 := HV.out; have h2 := pow_le k (by omega); omega
      have zk : (0 : Int) ≤ (k : Int) := by omega
      have zl : (k : Int) < (s.size : Int) := by omega
      by_cases hlo : s[k].toNat < 48
      · have hF : Hid (R = -1) := Lib.hid (HN.out.symm.trans ((congrArg (numS v) hd.out).trans (num_no (.inl hlo))))
        have hi : (s[k].toNat : Int) < 48 := by omega
        have hb : decide (s[k].toNat < 48) = true := by rw [decide_eq_true_eq]; exact hlo
        go_wp2_with fail
        go_ret
        exact ⟨ret_i (by rw [← HC.out, hF.out]; try (split <;> rfl)), rfl⟩
      by_cases hhi : 57 < s[k].toNat
      · have hF : Hid (R = -1) := Lib.hid (HN.out.symm.trans ((congrArg (numS v) hd.out).trans (num_no (.inr hhi))))
        have hi : (57 : Int) < (s[k].toNat : Int) := by omega
        have hi2 : (48 : Int) ≤ (s[k].toNat : Int) := by omega
        have hb : decide (s[k].toNat < 48) = false := by rw [decide_eq_false_iff_not]; exact hlo
        have hb2 : decide (57 < s[k].toNat) = true := by rw [decide_eq_true_eq]; exact hhi
        go_wp2_with fail
        go_ret
        exact ⟨ret_i (by rw [← HC.out, hF.out]; try (split <;> rfl)), rfl⟩
      · have hF := Lib.hid ((num_yes (v := v) (r := s.data.toList.drop (k + 1)) (by omega : 48 ≤ s[k].toNat) (by omega)).symm.trans ((congrArg (numS v) hd.out).symm.trans HN.out))
        have hi : (s[k].toNat : Int) ≤ 57 := by omega
        have hi2 : (48 : Int) ≤ (s[k].toNat : Int) := by omega
        have hb : decide (s[k].toNat < 48) = false := by rw [decide_eq_false_iff_not]; exact hlo
        have hb2 : decide (57 < s[k].toNat) = false := by rw [decide_eq_false_iff_not]; exact hhi
        have HV2 : Hid (v * 10 + ((s[k].toNat : Int) - 48) < 10 ^ (k + 1)) := Lib.hid (by have := HV.out; rw [Int.pow_succ]; omega)
        obtain ⟨V, hV⟩ : ∃ V, v * 10 + ((s[k].toNat : Int) - 48) = V := ⟨_, rfl⟩
        have hV0 : 0 ≤ V := by omega
        rw [hV] at HV2 hF
        have HE := Lib.hid hV
        clear hlo hhi hV
        go_wp2_with fail
        have hkg := HG.out
        have hV := HE.out
        go_roundg (gk - 1)
        case rel => exact ⟨k + 1, V, (congrArg (Value.int .i64) (by omega)), by go_num, by omega, by omega, hV0, HV2, hF, rfl⟩
        case measure => omega
    · have hF : Hid (R = v) := Lib.hid (by rw [← HN.out, List.drop_of_length_le (by rw [size_len]; omega)]; rfl)
      have HW := Lib.hid HV
      by_cases ht : top < v
      · go_wp2_with fail
        go_ret
        exact ⟨ret_i (by rw [← HC.out, hF.out, if_pos ht]), rfl⟩
      · have ht2 : v ≤ top := by omega
        go_wp2_with fail
        go_ret
        exact ⟨ret_i (by rw [← HC.out, hF.out, if_neg (by omega)]), rfl⟩

end Go.Proofs.YtkcpbjoolfojjaaGreatDoor.cnt
namespace Go.Proofs.YtkcpbjoolfojjaaGreatDoor.typeofR
open Go.RowKit Go.Proofs.YtkcpbjoolfojjaaGreatDoor.kit Go.Proofs.YtkcpbjoolfojjaaGreatDoor.low Go.Proofs.YtkcpbjoolfojjaaGreatDoor.tname Go.Proofs.YtkcpbjoolfojjaaGreatDoor.cnt
set_option linter.unusedVariables false
abbrev Bt := List UInt8

def hitS (L : Bt) : Option Int := (mnemL.find? (fun p => lowL p.2 == L)).map (·.1)
def wordT : Bt := [116, 121, 112, 101]
def restS (L : Bt) : Int := if L.length < 5 ∨ L.take 4 ≠ wordT then 0 else if countS (L.drop 4) 5 65535 < 1 then 0 else countS (L.drop 4) 5 65535
def typeOfS (l : Bt) : Int := (hitS (lowL l)).getD (restS (lowL l))
theorem mnem_all : ∀ p ∈ mnemL, mnemS p.1 = p.2 ∧ p.2 ≠ [] ∧ 1 ≤ p.1 ∧ p.1 ≤ 257 := by decide
theorem mnem_low : ∀ p ∈ mnemL, ∀ q ∈ mnemL, lowL p.2 = lowL q.2 → p = q := by decide +kernel
theorem mnem_mem {t : Int} (h : mnemS t ≠ []) : (t, mnemS t) ∈ mnemL := by
  unfold mnemS at h ⊢
  cases hf : mnemL.find? (·.1 == t) with
  | none => rw [hf] at h; exact absurd rfl h
  | some p =>
    have h1 := List.mem_of_find?_eq_some hf
    have h2 := List.find?_some hf
    have h3 : p.1 = t := by simpa using h2
    rw [← h3]; exact h1
theorem hit_yes {t : Int} {L : Bt} (h : mnemS t ≠ []) (he : lowL (mnemS t) = L) : hitS L = some t := by
  have hm := mnem_mem h
  unfold hitS
  cases hf : mnemL.find? (fun p => lowL p.2 == L) with
  | none => have := List.find?_eq_none.1 hf _ hm; simp [he] at this
  | some p =>
    have h2 : lowL p.2 = L := by simpa using List.find?_some hf
    have := mnem_low p (List.mem_of_find?_eq_some hf) _ hm (h2.trans he.symm)
    rw [this]; rfl
theorem hit_no {L : Bt} (h : ∀ p ∈ mnemL, lowL p.2 ≠ L) : hitS L = none := by
  unfold hitS
  rw [List.find?_eq_none.2 (fun p hp => by simpa using h p hp)]; rfl
/-- none of the words ahead of t -/
def NoB (L : Bt) (t : Int) : Prop := ∀ p ∈ mnemL, p.1 < t → lowL p.2 ≠ L
theorem NoB.step {L : Bt} {t : Int} (h : NoB L t) (hn : mnemS t = [] ∨ lowL (mnemS t) ≠ L) : NoB L (t + 1) := by
  intro p hp hlt
  by_cases e : p.1 = t
  · have h1 := mnem_all p hp
    rcases hn with h2 | h2
    · rw [← e, h1.1] at h2; exact absurd h2 h1.2.1
    · rw [← e, h1.1] at h2; exact h2
  · exact h p hp (by omega)
theorem bytes_eq {a b : ByteArray} : (a.toList == b.toList) = decide (a.data.toList = b.data.toList) := by
  rw [Lib.toList_data, Lib.toList_data, Bool.eq_iff_iff, beq_iff_eq, decide_eq_true_eq]
end Go.Proofs.YtkcpbjoolfojjaaGreatDoor.typeofR
