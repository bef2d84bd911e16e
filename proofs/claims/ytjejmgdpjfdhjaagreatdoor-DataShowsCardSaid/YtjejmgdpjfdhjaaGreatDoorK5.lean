/- Names of types: plain, and the walks of data.TypeName and gazetteerref1.TypeName. -/
import Derived.Test.YtjejmgdpjfdhjaaGreatDoorK4
import Derived.Test.YtjejmgdpjfdhjaaGreatDoorShelf
import Derived.Lib.ItoaNum
import Derived.Deep.RegionWith
namespace Go.Proofs.YtjejmgdpjfdhjaaGreatDoor.tname
open Go.RowKit Go.Proofs.YtjejmgdpjfdhjaaGreatDoor.kit
set_option linter.unusedVariables false
abbrev Bt := List UInt8
/-- the types that have a word -/
def mnemL : List (Int × Bt) := [(1, [65]), (2, [78, 83]), (5, [67, 78, 65, 77, 69]), (6, [83, 79, 65]), (12, [80, 84, 82]), (13, [72, 73, 78, 70, 79]), (15, [77, 88]), (16, [84, 88, 84]), (28, [65, 65, 65, 65]), (33, [83, 82, 86]), (35, [78, 65, 80, 84, 82]), (39, [68, 78, 65, 77, 69]), (41, [79, 80, 84]), (43, [68, 83]), (46, [82, 82, 83, 73, 71]), (47, [78, 83, 69, 67]), (48, [68, 78, 83, 75, 69, 89]), (50, [78, 83, 69, 67, 51]), (51, [78, 83, 69, 67, 51, 80, 65, 82, 65, 77]), (251, [73, 88, 70, 82]), (252, [65, 88, 70, 82]), (255, [65, 78, 89]), (257, [67, 65, 65])]
def mnemS (t : Int) : Bt := ((mnemL.find? (·.1 == t)).map (·.2)).getD []
def tnameS (t : Int) : Bt := if (mnemS t).isEmpty then (if t < 1 ∨ 65535 < t then [] else [84, 89, 80, 69] ++ Lib.itoa t) else mnemS t
theorem mnem_no {t : Int} (h1 : t ≠ 1) (h2 : t ≠ 2) (h5 : t ≠ 5) (h6 : t ≠ 6) (h12 : t ≠ 12) (h13 : t ≠ 13) (h15 : t ≠ 15) (h16 : t ≠ 16) (h28 : t ≠ 28) (h33 : t ≠ 33) (h35 : t ≠ 35) (h39 : t ≠ 39) (h41 : t ≠ 41) (h43 : t ≠ 43) (h46 : t ≠ 46) (h47 : t ≠ 47) (h48 : t ≠ 48) (h50 : t ≠ 50) (h51 : t ≠ 51) (h251 : t ≠ 251) (h252 : t ≠ 252) (h255 : t ≠ 255) (h257 : t ≠ 257) : mnemS t = [] := by
  simp [mnemS, mnemL, Ne.symm h1, Ne.symm h2, Ne.symm h5, Ne.symm h6, Ne.symm h12, Ne.symm h13, Ne.symm h15, Ne.symm h16, Ne.symm h28, Ne.symm h33, Ne.symm h35, Ne.symm h39, Ne.symm h41, Ne.symm h43, Ne.symm h46, Ne.symm h47, Ne.symm h48, Ne.symm h50, Ne.symm h51, Ne.symm h251, Ne.symm h252, Ne.symm h255, Ne.symm h257]
theorem mnem_cases (t : Int) : t = 1 ∨ t = 2 ∨ t = 5 ∨ t = 6 ∨ t = 12 ∨ t = 13 ∨ t = 15 ∨ t = 16 ∨ t = 28 ∨ t = 33 ∨ t = 35 ∨ t = 39 ∨ t = 41 ∨ t = 43 ∨ t = 46 ∨ t = 47 ∨ t = 48 ∨ t = 50 ∨ t = 51 ∨ t = 251 ∨ t = 252 ∨ t = 255 ∨ t = 257 ∨ (t ≠ 1 ∧ t ≠ 2 ∧ t ≠ 5 ∧ t ≠ 6 ∧ t ≠ 12 ∧ t ≠ 13 ∧ t ≠ 15 ∧ t ≠ 16 ∧ t ≠ 28 ∧ t ≠ 33 ∧ t ≠ 35 ∧ t ≠ 39 ∧ t ≠ 41 ∧ t ≠ 43 ∧ t ≠ 46 ∧ t ≠ 47 ∧ t ≠ 48 ∧ t ≠ 50 ∧ t ≠ 51 ∧ t ≠ 251 ∧ t ≠ 252 ∧ t ≠ 255 ∧ t ≠ 257) := by
  omega
set_option maxRecDepth 100000 in
set_option maxHeartbeats 4000000 in
theorem mnem_any (t : Int) (w : World) : Calls Tryz.prog 60 #[.int .i64 t] w fun e w' => e = .returned (.string ⟨(mnemS t).toArray⟩) ∧ w' = w := by
  rcases mnem_cases t with rfl | rfl | rfl | rfl | rfl | rfl | rfl | rfl | rfl | rfl | rfl | rfl | rfl | rfl | rfl | rfl | rfl | rfl | rfl | rfl | rfl | rfl | rfl | ⟨h1, h2, h5, h6, h12, h13, h15, h16, h28, h33, h35, h39, h41, h43, h46, h47, h48, h50, h51, h251, h252, h255, h257⟩
  · go_enter Tryz.func60, Tryz.ntmps60
    go_wp2_with fail
    go_ret
    exact ⟨rfl, rfl⟩
  · go_enter Tryz.func60, Tryz.ntmps60
    go_wp2_with fail
    go_ret
    exact ⟨rfl, rfl⟩
  · go_enter Tryz.func60, Tryz.ntmps60
    go_wp2_with fail
    go_ret
    exact ⟨rfl, rfl⟩
  · go_enter Tryz.func60, Tryz.ntmps60
    go_wp2_with fail
    go_ret
    exact ⟨rfl, rfl⟩
  · go_enter Tryz.func60, Tryz.ntmps60
    go_wp2_with fail
    go_ret
    exact ⟨rfl, rfl⟩
  · go_enter Tryz.func60, Tryz.ntmps60
    go_wp2_with fail
    go_ret
    exact ⟨rfl, rfl⟩
  · go_enter Tryz.func60, Tryz.ntmps60
    go_wp2_with fail
    go_ret
    exact ⟨rfl, rfl⟩
  · go_enter Tryz.func60, Tryz.ntmps60
    go_wp2_with fail
    go_ret
    exact ⟨rfl, rfl⟩
  · go_enter Tryz.func60, Tryz.ntmps60
    go_wp2_with fail
    go_ret
    exact ⟨rfl, rfl⟩
  · go_enter Tryz.func60, Tryz.ntmps60
    go_wp2_with fail
    go_ret
    exact ⟨rfl, rfl⟩
  · go_enter Tryz.func60, Tryz.ntmps60
    go_wp2_with fail
    go_ret
    exact ⟨rfl, rfl⟩
  · go_enter Tryz.func60, Tryz.ntmps60
    go_wp2_with fail
    go_ret
    exact ⟨rfl, rfl⟩
  · go_enter Tryz.func60, Tryz.ntmps60
    go_wp2_with fail
    go_ret
    exact ⟨rfl, rfl⟩
  · go_enter Tryz.func60, Tryz.ntmps60
    go_wp2_with fail
    go_ret
    exact ⟨rfl, rfl⟩
  · go_enter Tryz.func60, Tryz.ntmps60
    go_wp2_with fail
    go_ret
    exact ⟨rfl, rfl⟩
  · go_enter Tryz.func60, Tryz.ntmps60
    go_wp2_with fail
    go_ret
    exact ⟨rfl, rfl⟩
  · go_enter Tryz.func60, Tryz.ntmps60
    go_wp2_with fail
    go_ret
    exact ⟨rfl, rfl⟩
  · go_enter Tryz.func60, Tryz.ntmps60
    go_wp2_with fail
    go_ret
    exact ⟨rfl, rfl⟩
  · go_enter Tryz.func60, Tryz.ntmps60
    go_wp2_with fail
    go_ret
    exact ⟨rfl, rfl⟩
  · go_enter Tryz.func60, Tryz.ntmps60
    go_wp2_with fail
    go_ret
    exact ⟨rfl, rfl⟩
  · go_enter Tryz.func60, Tryz.ntmps60
    go_wp2_with fail
    go_ret
    exact ⟨rfl, rfl⟩
  · go_enter Tryz.func60, Tryz.ntmps60
    go_wp2_with fail
    go_ret
    exact ⟨rfl, rfl⟩
  · go_enter Tryz.func60, Tryz.ntmps60
    go_wp2_with fail
    go_ret
    exact ⟨rfl, rfl⟩
  · rw [mnem_no h1 h2 h5 h6 h12 h13 h15 h16 h28 h33 h35 h39 h41 h43 h46 h47 h48 h50 h51 h251 h252 h255 h257]
    have b1 : (t == 1) = false := by rw [beq_eq_false_iff_ne]; exact h1
    have b2 : (t == 2) = false := by rw [beq_eq_false_iff_ne]; exact h2
    have b5 : (t == 5) = false := by rw [beq_eq_false_iff_ne]; exact h5
    have b6 : (t == 6) = false := by rw [beq_eq_false_iff_ne]; exact h6
    have b12 : (t == 12) = false := by rw [beq_eq_false_iff_ne]; exact h12
    have b13 : (t == 13) = false := by rw [beq_eq_false_iff_ne]; exact h13
    have b15 : (t == 15) = false := by rw [beq_eq_false_iff_ne]; exact h15
    have b16 : (t == 16) = false := by rw [beq_eq_false_iff_ne]; exact h16
    have b28 : (t == 28) = false := by rw [beq_eq_false_iff_ne]; exact h28
    have b33 : (t == 33) = false := by rw [beq_eq_false_iff_ne]; exact h33
    have b35 : (t == 35) = false := by rw [beq_eq_false_iff_ne]; exact h35
    have b39 : (t == 39) = false := by rw [beq_eq_false_iff_ne]; exact h39
    have b41 : (t == 41) = false := by rw [beq_eq_false_iff_ne]; exact h41
    have b43 : (t == 43) = false := by rw [beq_eq_false_iff_ne]; exact h43
    have b46 : (t == 46) = false := by rw [beq_eq_false_iff_ne]; exact h46
    have b47 : (t == 47) = false := by rw [beq_eq_false_iff_ne]; exact h47
    have b48 : (t == 48) = false := by rw [beq_eq_false_iff_ne]; exact h48
    have b50 : (t == 50) = false := by rw [beq_eq_false_iff_ne]; exact h50
    have b51 : (t == 51) = false := by rw [beq_eq_false_iff_ne]; exact h51
    have b251 : (t == 251) = false := by rw [beq_eq_false_iff_ne]; exact h251
    have b252 : (t == 252) = false := by rw [beq_eq_false_iff_ne]; exact h252
    have b255 : (t == 255) = false := by rw [beq_eq_false_iff_ne]; exact h255
    have b257 : (t == 257) = false := by rw [beq_eq_false_iff_ne]; exact h257
    clear h1 h2 h5 h6 h12 h13 h15 h16 h28 h33 h35 h39 h41 h43 h46 h47 h48 h50 h51 h251 h252 h255 h257
    go_enter Tryz.func60, Tryz.ntmps60
    go_wp2_with fail
    go_ret
    exact ⟨rfl, rfl⟩
theorem dec_len : ∀ (k u : Nat), u < 10 ^ (k + 1) → (Lib.decDigits u).length ≤ k + 1
  | 0, u, h => by
    rw [Lib.decDigits]
    simp only [show u < 10 by omega, dite_true, List.length_singleton]; omega
  | k + 1, u, h => by
    rw [Lib.decDigits]
    split
    · simp
    · have := dec_len k (u / 10) (by rw [Nat.pow_succ] at h; omega)
      simp; omega

theorem dec_base {v : Nat} (h : v < 10) : Lib.decDigits v = [UInt8.ofNat (48 + v)] := by rw [Lib.decDigits, dif_pos h]
theorem dec_step {v : Nat} (h : ¬ v < 10) : Lib.decDigits v = Lib.decDigits (v / 10) ++ [UInt8.ofNat (48 + v % 10)] := by rw [Lib.decDigits, dif_neg h]
theorem conv_one {d : UInt8} (X : ByteArray) (hX : (⟨#[d]⟩ : ByteArray) = X) {z : Int} (hz : z = (d.toNat : Int)) : ∀ (wx : World) (g : Nat), wx.cell? ⟨g, 0, none⟩ = some (.int .u8 z) → (convert 51 9 (.slice (some ⟨g, 0, none⟩) 1 1)).run Tryz.prog wx = .ok (.string X) wx := by
  intro wx g hx
  rw [← hX]
  rw [hz] at hx
  exact run_convert_bytes_back wx 51 9 5 ⟨g, 0, none⟩ 1 [d] Tryz.underlying51 Tryz.underlying5 Tryz.underlying9 (fun j hj => by
    have : j = 0 := by simpa using hj
    subst this
    exact hx)
theorem dec_val {v : Nat} (h : v < 10) : 48 + (v : Int) = ((UInt8.ofNat (48 + v)).toNat : Int) := by
  rw [UInt8.toNat_ofNat']; omega
theorem dec_rem (v : Nat) : IntKind.u8.wrap (IntKind.i64.wrap (48 + (v : Int).tmod 10)) = ((UInt8.ofNat (48 + v % 10)).toNat : Int) := by
  have e : (v : Int).tmod 10 = ((v % 10 : Nat) : Int) := by rw [Int.tmod_eq_emod_of_nonneg (by omega)]; omega
  rw [e, IntWalk.i64_in _ (by omega), IntKind.wrap_u8, UInt8.toNat_ofNat']; omega
set_option maxRecDepth 100000 in
set_option maxHeartbeats 2000000 in
theorem decimal_small (v : Nat) (w : World) (hv : v < 10) :
    Calls Tryz.prog 19 #[.int .i64 (v : Int)] w fun e w' => e = .returned (.string ⟨(Lib.decDigits v).toArray⟩) ∧ Below w.heap.size w w' := by
  obtain ⟨X, hX⟩ : ∃ X : ByteArray, (⟨#[UInt8.ofNat (48 + v)]⟩ : ByteArray) = X := ⟨_, rfl⟩
  have hconv := conv_one X hX (dec_val hv)
  have hF : Hid ((⟨(Lib.decDigits v).toArray⟩ : ByteArray) = X) := Lib.hid (by rw [dec_base hv, ← hX])
  have hvi : (v : Int) < 10 := by omega
  clear hX
  go_enter Tryz.func19, Tryz.ntmps19
  go_wp2_with fail
  go_ret
  rw [hF.out]
  exact ⟨rfl, (Below.refl _ _).alloc (Nat.le_refl _) _⟩
set_option maxRecDepth 100000 in
set_option maxHeartbeats 2000000 in
theorem decimal_any (n : Nat) : ∀ (v : Nat) (w : World), v < 10 ^ (n + 1) → n ≤ 15 →
    Calls Tryz.prog 19 #[.int .i64 (v : Int)] w fun e w' => e = .returned (.string ⟨(Lib.decDigits v).toArray⟩) ∧ Below w.heap.size w w' := by
  induction n with
  | zero => intro v w hv _; exact decimal_small v w (by omega)
  | succ n ih =>
    intro v w hv hn
    by_cases hs : v < 10
    · exact decimal_small v w hs
    obtain ⟨q, hq⟩ : ∃ q, v / 10 = q := ⟨_, rfl⟩
    have hp : 10 ^ (n + 1) ≤ 10 ^ 16 := Nat.pow_le_pow_right (by omega) (by omega)
    have hql : q < 10 ^ (n + 1) := by rw [Nat.pow_succ] at hv; omega
    have hvb : v < 100000000000000000 := by rw [Nat.pow_succ] at hv; omega
    obtain ⟨T, hT⟩ : ∃ T : ByteArray, (⟨(Lib.decDigits q).toArray⟩ : ByteArray) = T := ⟨_, rfl⟩
    obtain ⟨X, hX⟩ : ∃ X : ByteArray, (⟨#[UInt8.ofNat (48 + v % 10)]⟩ : ByteArray) = X := ⟨_, rfl⟩
    have hTs : T.size ≤ 17 := by rw [← hT, mk_size]; have := dec_len n q hql; omega
    have hXs : X.size ≤ 1 := by rw [← hX]; exact Nat.le_refl 1
    have IH := Lib.hid (fun w => ih q w hql (by omega))
    rw [hT] at IH
    have hbig : Hid ((⟨(Lib.decDigits v).toArray⟩ : ByteArray) = T ++ X) := Lib.hid (by rw [dec_step hs, hq, ← hT, ← hX]; exact ba_ext (by simp))
    have E1 : Hid (IntKind.i64.wrap ((v : Int) / 10) = (q : Int)) := Lib.hid (by rw [IntWalk.i64_in _ (by omega)]; omega)
    have hconv := conv_one X hX (dec_rem v)
    have hsi : (10 : Int) ≤ (v : Int) := by omega
    clear ih hq hT hX hv hp hql hs
    go_enter Tryz.func19, Tryz.ntmps19
    go_wp2_with fail
    go_region_with (go_at_call 19; rw [E1.out]; refine (IH.out _).mono ?_; rintro e w1 ⟨rfl, hB1⟩; have hcx := hB1.cell (p := ⟨w.heap.size, 0, none⟩))
    all_goals
      clear hcx hconv
      go_wp2
      go_ret
      rw [hbig.out]
      refine ⟨rfl, ?_⟩
      have hz := hB1.size
      have hd : Below w.heap.size w w.drew := (Below.refl _ _).drew
      first
        | exact (hd.trans hB1).alloc (by simpa using hz) _
        | exact (hd.alloc (Nat.le_refl _) _).trans (hB1.mono (by simp))
theorem below_growD (w : World) (k : Nat) (os : Array Obj) : Below w.heap.size w (Go.Sort.grow (w.drewN k) os) := by
  refine ⟨rfl, rfl, rfl, ?_, fun i hi => ?_⟩
  · simp [Go.Sort.grow, World.drewN]
  · simp [Go.Sort.grow, World.drewN, Array.getElem?_append_left hi]
open Go.Lib in
theorem digits_any (n : Int) (h0 : -9223372036854775808 ≤ n) (h1 : n ≤ 9223372036854775807) (w : World) (htab : Lib.TabIs Tryz.prog w "internal/strconv.uint64pow10" .u64 Lib.pow10Tab) :
    Calls Tryz.prog 13 #[.int .i64 n] w fun e w' => e = .returned (.string ⟨(Lib.itoa n).toArray⟩) ∧ Below w.heap.size w w' := by
  have CI := Lib.hid (Tryz.strconv_Itoa n h0 h1 w htab)
  clear htab
  go_enter Tryz.func13, Tryz.ntmps13
  go_wp2_with (go_at_call 28; refine CI.out.mono ?_; rintro e w1 ⟨rfl, k, os, rfl⟩)
  go_ret
  refine ⟨rfl, ?_⟩
  exact below_growD _ _ _
theorem tname_yes {t : Int} {n : Bt} (h : mnemS t = n) (hn : n.isEmpty = false) : tnameS t = n := by
  unfold tnameS; rw [h, hn]; rfl
theorem tname_out {t : Int} (h : mnemS t = []) (ho : t < 1 ∨ 65535 < t) : tnameS t = [] := by
  unfold tnameS; rw [h]; simp [ho]
theorem tname_in {t : Int} (h : mnemS t = []) (h1 : 1 ≤ t) (h2 : t ≤ 65535) : tnameS t = [84, 89, 80, 69] ++ Lib.itoa t := by
  unfold tnameS; rw [h]; show (if t < 1 ∨ 65535 < t then ([] : Bt) else _) = _; rw [if_neg (by omega)]
theorem itoa_nat {t : Int} (h : 0 ≤ t) : Lib.itoa t = Lib.decDigits t.toNat := by unfold Lib.itoa; rw [if_neg (by omega)]
theorem itoa_len {t : Int} (h : 0 ≤ t) (h2 : t ≤ 65535) : (Lib.itoa t).length ≤ 5 := by
  rw [itoa_nat h]; exact dec_len 4 _ (by omega)
set_option maxRecDepth 100000 in
set_option maxHeartbeats 4000000 in
theorem dtname_any (t : Int) (h0 : -9223372036854775808 ≤ t) (h1 : t ≤ 9223372036854775807) (w : World) (htab : Lib.TabIs Tryz.prog w "internal/strconv.uint64pow10" .u64 Lib.pow10Tab) :
    Calls Tryz.prog 29 #[.int .i64 t] w fun e w' => e = .returned (.string ⟨(tnameS t).toArray⟩) ∧ Below w.heap.size w w' := by
  have CD := Lib.hid (digits_any t h0 h1 w htab)
  clear htab
  rcases mnem_cases t with rfl | rfl | rfl | rfl | rfl | rfl | rfl | rfl | rfl | rfl | rfl | rfl | rfl | rfl | rfl | rfl | rfl | rfl | rfl | rfl | rfl | rfl | rfl | ⟨h1, h2, h5, h6, h12, h13, h15, h16, h28, h33, h35, h39, h41, h43, h46, h47, h48, h50, h51, h251, h252, h255, h257⟩
  · clear CD
    rw [tname_yes (n := [65]) rfl rfl]
    go_enter Tryz.func29, Tryz.ntmps29
    go_wp2_with fail
    go_ret
    exact ⟨rfl, Below.refl _ _⟩
  · clear CD
    rw [tname_yes (n := [78, 83]) rfl rfl]
    go_enter Tryz.func29, Tryz.ntmps29
    go_wp2_with fail
    go_ret
    exact ⟨rfl, Below.refl _ _⟩
  · clear CD
    rw [tname_yes (n := [67, 78, 65, 77, 69]) rfl rfl]
    go_enter Tryz.func29, Tryz.ntmps29
    go_wp2_with fail
    go_ret
    exact ⟨rfl, Below.refl _ _⟩
  · clear CD
    rw [tname_yes (n := [83, 79, 65]) rfl rfl]
    go_enter Tryz.func29, Tryz.ntmps29
    go_wp2_with fail
    go_ret
    exact ⟨rfl, Below.refl _ _⟩
  · clear CD
    rw [tname_yes (n := [80, 84, 82]) rfl rfl]
    go_enter Tryz.func29, Tryz.ntmps29
    go_wp2_with fail
    go_ret
    exact ⟨rfl, Below.refl _ _⟩
  · clear CD
    rw [tname_yes (n := [72, 73, 78, 70, 79]) rfl rfl]
    go_enter Tryz.func29, Tryz.ntmps29
    go_wp2_with fail
    go_ret
    exact ⟨rfl, Below.refl _ _⟩
  · clear CD
    rw [tname_yes (n := [77, 88]) rfl rfl]
    go_enter Tryz.func29, Tryz.ntmps29
    go_wp2_with fail
    go_ret
    exact ⟨rfl, Below.refl _ _⟩
  · clear CD
    rw [tname_yes (n := [84, 88, 84]) rfl rfl]
    go_enter Tryz.func29, Tryz.ntmps29
    go_wp2_with fail
    go_ret
    exact ⟨rfl, Below.refl _ _⟩
  · clear CD
    rw [tname_yes (n := [65, 65, 65, 65]) rfl rfl]
    go_enter Tryz.func29, Tryz.ntmps29
    go_wp2_with fail
    go_ret
    exact ⟨rfl, Below.refl _ _⟩
  · clear CD
    rw [tname_yes (n := [83, 82, 86]) rfl rfl]
    go_enter Tryz.func29, Tryz.ntmps29
    go_wp2_with fail
    go_ret
    exact ⟨rfl, Below.refl _ _⟩
  · clear CD
    rw [tname_yes (n := [78, 65, 80, 84, 82]) rfl rfl]
    go_enter Tryz.func29, Tryz.ntmps29
    go_wp2_with fail
    go_ret
    exact ⟨rfl, Below.refl _ _⟩
  · clear CD
    rw [tname_yes (n := [68, 78, 65, 77, 69]) rfl rfl]
    go_enter Tryz.func29, Tryz.ntmps29
    go_wp2_with fail
    go_ret
    exact ⟨rfl, Below.refl _ _⟩
  · clear CD
    rw [tname_yes (n := [79, 80, 84]) rfl rfl]
    go_enter Tryz.func29, Tryz.ntmps29
    go_wp2_with fail
    go_ret
    exact ⟨rfl, Below.refl _ _⟩
  · clear CD
    rw [tname_yes (n := [68, 83]) rfl rfl]
    go_enter Tryz.func29, Tryz.ntmps29
    go_wp2_with fail
    go_ret
    exact ⟨rfl, Below.refl _ _⟩
  · clear CD
    rw [tname_yes (n := [82, 82, 83, 73, 71]) rfl rfl]
    go_enter Tryz.func29, Tryz.ntmps29
    go_wp2_with fail
    go_ret
    exact ⟨rfl, Below.refl _ _⟩
  · clear CD
    rw [tname_yes (n := [78, 83, 69, 67]) rfl rfl]
    go_enter Tryz.func29, Tryz.ntmps29
    go_wp2_with fail
    go_ret
    exact ⟨rfl, Below.refl _ _⟩
  · clear CD
    rw [tname_yes (n := [68, 78, 83, 75, 69, 89]) rfl rfl]
    go_enter Tryz.func29, Tryz.ntmps29
    go_wp2_with fail
    go_ret
    exact ⟨rfl, Below.refl _ _⟩
  · clear CD
    rw [tname_yes (n := [78, 83, 69, 67, 51]) rfl rfl]
    go_enter Tryz.func29, Tryz.ntmps29
    go_wp2_with fail
    go_ret
    exact ⟨rfl, Below.refl _ _⟩
  · clear CD
    rw [tname_yes (n := [78, 83, 69, 67, 51, 80, 65, 82, 65, 77]) rfl rfl]
    go_enter Tryz.func29, Tryz.ntmps29
    go_wp2_with fail
    go_ret
    exact ⟨rfl, Below.refl _ _⟩
  · clear CD
    rw [tname_yes (n := [73, 88, 70, 82]) rfl rfl]
    go_enter Tryz.func29, Tryz.ntmps29
    go_wp2_with fail
    go_ret
    exact ⟨rfl, Below.refl _ _⟩
  · clear CD
    rw [tname_yes (n := [65, 88, 70, 82]) rfl rfl]
    go_enter Tryz.func29, Tryz.ntmps29
    go_wp2_with fail
    go_ret
    exact ⟨rfl, Below.refl _ _⟩
  · clear CD
    rw [tname_yes (n := [65, 78, 89]) rfl rfl]
    go_enter Tryz.func29, Tryz.ntmps29
    go_wp2_with fail
    go_ret
    exact ⟨rfl, Below.refl _ _⟩
  · clear CD
    rw [tname_yes (n := [67, 65, 65]) rfl rfl]
    go_enter Tryz.func29, Tryz.ntmps29
    go_wp2_with fail
    go_ret
    exact ⟨rfl, Below.refl _ _⟩
  · have hm := Lib.hid (mnem_no h1 h2 h5 h6 h12 h13 h15 h16 h28 h33 h35 h39 h41 h43 h46 h47 h48 h50 h51 h251 h252 h255 h257)
    have b1 : (t == 1) = false := by rw [beq_eq_false_iff_ne]; exact h1
    have b2 : (t == 2) = false := by rw [beq_eq_false_iff_ne]; exact h2
    have b5 : (t == 5) = false := by rw [beq_eq_false_iff_ne]; exact h5
    have b6 : (t == 6) = false := by rw [beq_eq_false_iff_ne]; exact h6
    have b12 : (t == 12) = false := by rw [beq_eq_false_iff_ne]; exact h12
    have b13 : (t == 13) = false := by rw [beq_eq_false_iff_ne]; exact h13
    have b15 : (t == 15) = false := by rw [beq_eq_false_iff_ne]; exact h15
    have b16 : (t == 16) = false := by rw [beq_eq_false_iff_ne]; exact h16
    have b28 : (t == 28) = false := by rw [beq_eq_false_iff_ne]; exact h28
    have b33 : (t == 33) = false := by rw [beq_eq_false_iff_ne]; exact h33
    have b35 : (t == 35) = false := by rw [beq_eq_false_iff_ne]; exact h35
    have b39 : (t == 39) = false := by rw [beq_eq_false_iff_ne]; exact h39
    have b41 : (t == 41) = false := by rw [beq_eq_false_iff_ne]; exact h41
    have b43 : (t == 43) = false := by rw [beq_eq_false_iff_ne]; exact h43
    have b46 : (t == 46) = false := by rw [beq_eq_false_iff_ne]; exact h46
    have b47 : (t == 47) = false := by rw [beq_eq_false_iff_ne]; exact h47
    have b48 : (t == 48) = false := by rw [beq_eq_false_iff_ne]; exact h48
    have b50 : (t == 50) = false := by rw [beq_eq_false_iff_ne]; exact h50
    have b51 : (t == 51) = false := by rw [beq_eq_false_iff_ne]; exact h51
    have b251 : (t == 251) = false := by rw [beq_eq_false_iff_ne]; exact h251
    have b252 : (t == 252) = false := by rw [beq_eq_false_iff_ne]; exact h252
    have b255 : (t == 255) = false := by rw [beq_eq_false_iff_ne]; exact h255
    have b257 : (t == 257) = false := by rw [beq_eq_false_iff_ne]; exact h257
    clear h1 h2 h5 h6 h12 h13 h15 h16 h28 h33 h35 h39 h41 h43 h46 h47 h48 h50 h51 h251 h252 h255 h257
    by_cases hlo : t < 1
    · rw [tname_out hm.out (.inl hlo)]
      clear CD
      go_enter Tryz.func29, Tryz.ntmps29
      go_wp2_with fail
      go_ret
      exact ⟨rfl, Below.refl _ _⟩
    by_cases hhi : 65535 < t
    · rw [tname_out hm.out (.inr hhi)]
      have hlo2 : 1 ≤ t := by omega
      clear CD
      go_enter Tryz.func29, Tryz.ntmps29
      go_wp2_with fail
      go_ret
      exact ⟨rfl, Below.refl _ _⟩
    · have hlo2 : 1 ≤ t := by omega
      have hhi2 : t ≤ 65535 := by omega
      have hF := Lib.hid (tname_in hm.out hlo2 hhi2)
      obtain ⟨D, hD⟩ : ∃ D : ByteArray, (⟨(Lib.itoa t).toArray⟩ : ByteArray) = D := ⟨_, rfl⟩
      have hDs : D.size ≤ 5 := by rw [← hD, mk_size]; exact itoa_len (by omega) hhi2
      have hFD : Hid ((⟨(tnameS t).toArray⟩ : ByteArray) = ⟨#[84, 89, 80, 69]⟩ ++ D) := Lib.hid (by rw [hF.out, ← hD]; exact ba_ext (by simp))
      rw [hD] at CD
      clear hD hlo hhi
      go_enter Tryz.func29, Tryz.ntmps29
      go_wp2_with (go_at_call 13; refine CD.out.mono ?_; rintro e w1 ⟨rfl, hB1⟩)
      go_ret
      rw [hFD.out]
      exact ⟨rfl, hB1⟩
theorem mk_emp {l : Bt} (h : l.isEmpty = false) : (⟨l.toArray⟩ : ByteArray).toList.isEmpty = false := by rw [Lib.toList_data]; exact h
set_option maxRecDepth 100000 in
set_option maxHeartbeats 4000000 in
theorem rtname_any (t : Int) (w : World) :
    Calls Tryz.prog 35 #[.int .i64 t] w fun e w' => e = .returned (.string ⟨(tnameS t).toArray⟩) ∧ Below w.heap.size w w' := by
  have CM := Lib.hid (mnem_any t w)
  obtain ⟨M, hM⟩ : ∃ M, mnemS t = M := ⟨_, rfl⟩
  have HM := Lib.hid hM
  rw [hM] at CM
  clear hM
  cases hE : M.isEmpty with
  | false =>
    rw [tname_yes HM.out hE]
    have he := mk_emp hE
    obtain ⟨B, hB⟩ : ∃ B : ByteArray, (⟨M.toArray⟩ : ByteArray) = B := ⟨_, rfl⟩
    rw [hB] at CM he ⊢
    clear hB hE
    go_enter Tryz.func35, Tryz.ntmps35
    go_wp2_with (go_at_call 60; refine CM.out.mono ?_; rintro e w1 ⟨rfl, rfl⟩)
    go_ret
    exact ⟨rfl, Below.refl _ _⟩
  | true =>
    obtain rfl : M = [] := List.isEmpty_iff.1 hE
    clear hE
    by_cases hlo : t < 1
    · rw [tname_out HM.out (.inl hlo)]
      go_enter Tryz.func35, Tryz.ntmps35
      go_wp2_with (go_at_call 60; refine CM.out.mono ?_; rintro e w1 ⟨rfl, rfl⟩)
      go_ret
      exact ⟨rfl, Below.refl _ _⟩
    by_cases hhi : 65535 < t
    · rw [tname_out HM.out (.inr hhi)]
      have hlo2 : 1 ≤ t := by omega
      go_enter Tryz.func35, Tryz.ntmps35
      go_wp2_with (go_at_call 60; refine CM.out.mono ?_; rintro e w1 ⟨rfl, rfl⟩)
      go_ret
      exact ⟨rfl, Below.refl _ _⟩
    · have hlo2 : 1 ≤ t := by omega
      have hhi2 : t ≤ 65535 := by omega
      have hF := Lib.hid (tname_in HM.out hlo2 hhi2)
      rw [itoa_nat (by omega)] at hF
      obtain ⟨v, rfl⟩ : ∃ v : Nat, t = (v : Int) := ⟨t.toNat, by omega⟩
      have CD := Lib.hid (fun w => decimal_any 4 v w (by omega) (by omega))
      have hl := dec_len 4 v (by omega)
      rw [Int.toNat_natCast] at hF
      obtain ⟨D, hD⟩ : ∃ D : ByteArray, (⟨(Lib.decDigits v).toArray⟩ : ByteArray) = D := ⟨_, rfl⟩
      have hDs : D.size ≤ 5 := by rw [← hD, mk_size]; exact hl
      have hFD : Hid ((⟨(tnameS (v : Int)).toArray⟩ : ByteArray) = ⟨#[84, 89, 80, 69]⟩ ++ D) := Lib.hid (by rw [hF.out, ← hD]; exact ba_ext (by simp))
      rw [hD] at CD
      clear hD hlo hhi hl
      go_enter Tryz.func35, Tryz.ntmps35
      go_wp2_with (first | (go_at_call 60; refine CM.out.mono ?_; rintro e w1 ⟨rfl, rfl⟩) | (go_at_call 19; refine (CD.out _).mono ?_; rintro e w2 ⟨rfl, hB2⟩))
      go_ret
      rw [hFD.out]
      exact ⟨rfl, hB2⟩
end Go.Proofs.YtjejmgdpjfdhjaaGreatDoor.tname
