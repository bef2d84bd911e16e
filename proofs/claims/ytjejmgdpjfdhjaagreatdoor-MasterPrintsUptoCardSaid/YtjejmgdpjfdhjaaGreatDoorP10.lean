/- Names of types: plain, and the walks of data.TypeName and gazetteerref1.TypeName. How data are written: plain. name.Check of a text of any size: walk. -/
import Derived.Test.YtjejmgdpjfdhjaaGreatDoorP8
import Derived.Test.YtjejmgdpjfdhjaaGreatDoorShelf
import Derived.Test.YtjejmgdpjfdhjaaGreatDoorP7
import Derived.Test.YtjejmgdpjfdhjaaGreatDoorP3
import Derived.Lib.ItoaNum
import Derived.Deep.RegionWith
namespace Go.Proofs.YtjejmgdpjfdhjaaGreatDoor.tname
open Go.RowKit Go.Proofs.YtjejmgdpjfdhjaaGreatDoor.kit
set_option linter.unusedVariables false
abbrev Bt := List UInt8
/-- the types that have a word -/
def mnemL : List (Int × Bt) := [(1, [65]), (2, [78, 83]), (5, [67, 78, 65, 77, 69]), (6, [83, 79, 65]), (12, [80, 84, 82]), (13, [72, 73, 78, 70, 79]), (15, [77, 88]), (16, [84, 88, 84]), (28, [65, 65, 65, 65]), (33, [83, 82, 86]), (35, [78, 65, 80, 84, 82]), (39, [68, 78, 65, 77, 69]), (41, [79, 80, 84]), (43, [68, 83]), (46, [82, 82, 83, 73, 71]), (47, [78, 83, 69, 67]), (48, [68, 78, 83, 75, 69, 89]), (50, [78, 83, 69, 67, 51]), (51, [78, 83, 69, 67, 51, 80, 65, 82, 65, 77]), (251, [73, 88, 70, 82]), (252, [65, 88, 70, 82]), (255, [65, 78, 89]), (257, [67, 65, 65])]
def mnemS (t : Int) : Bt := ((mnemL.find? (·.1 == t)).map (·.2)).getD []
def tnameS (t : Int) : Bt := if (mnemS t).isEmpty then (if t < 1 ∨ 65535 < t then [] else [84, 89, 80, 69] ++ Lib.itoa t) else mnemS t
theorem mnem_no {t : Int} (h1 : t ≠ 1) (h2 : t ≠ 2) (h5 : t ≠ 5) (h6 : t ≠ 6) (h12 : t ≠ 12) (h13 : t ≠ 13) (h15 : t ≠ 15) (h16 : t ≠ 16) (h28 : t ≠ 28) (h33 : t ≠ 33) (h35 : t ≠ 35) (h39 : t ≠ 39) (h41 : t ≠ 41) (h43 : t ≠ 43) (h46 : t ≠ 46) (h47 : t ≠ 47) (h48 : t ≠ 48) (h50 : t ≠ 50) (h51 : t ≠ 51) (h251 : t ≠ 251) (h252 : t ≠ 252) (h255 : t ≠ 255) (h257 : t ≠ 257) : mnemS t = [] := by
  simp [mnemS, mnemL, Ne.symm h1, Ne.symm h2, Ne.symm h5, Ne.symm h6, Ne.symm h12, Ne.symm h13, Ne.symm h15, Ne.symm h16, Ne.symm h28, Ne.symm h33, Ne.symm h35, Ne.symm h39, Ne.symm h41, Ne.symm h43, Ne.symm h46, Ne.symm h47, Ne.symm h48, Ne.symm h50, Ne.symm h51, Ne.symm h251, Ne.symm h252, Ne.symm h255, Ne.symm h257]
theorem mnem_cases (t : Int) : t = 1 ∨ t = 2 ∨ t = 5 ∨ t = 6 ∨ t = 12 ∨ t = 13 ∨ t = 15 ∨ t = 16 ∨ t = 28 ∨ t = 33 ∨ t = 35 ∨ t = 39 ∨ t = 41 ∨ t = 43 ∨ t = 46 ∨ t = 47 ∨ t = 48 ∨ t = 50 ∨ t = 51 ∨ t = 251 ∨ t = 252 ∨ t = 255 ∨ t = 257 ∨ (t ≠ 1 ∧ t ≠ 2 ∧ t ≠ 5 ∧ t ≠ 6 ∧ t ≠ 12 ∧ t ≠ 13 ∧ t ≠ 15 ∧ t ≠ 16 ∧ t ≠ 28 ∧ t ≠ 33 ∧ t ≠ 35 ∧ t ≠ 39 ∧ t ≠ 41 ∧ t ≠ 43 ∧ t ≠ 46 ∧ t ≠ 47 ∧ t ≠ 48 ∧ t ≠ 50 ∧ t ≠ 51 ∧ t ≠ 251 ∧ t ≠ 252 ∧ t ≠ 255 ∧ t ≠ 257) := by
  omega
set_option maxRecDepth 100000 in
set_option maxHeartbeats 4000000 in
theorem mnem_any (t : Int) (w : World) : Calls Tryz.prog 60 #[.int .i64 t] w fun e w' => e = .returned (.string ⟨(mnemS t).toArray⟩) ∧ w' = w := by
  rcases mnem_cases t with rfl | rfl | rfl | rfl | rfl | rfl | rfl | rfl | rfl | rfl | rfl | rfl | rfl | rfl | rfl | rfl | rfl | rfl | rfl | rfl | rfl | rfl | rfl | ⟨h1, h2, h5, h6, h12, h13, h15, h16, h28, h33, h35, h39, h41, h43, h46, h47, h48, h50, h51, h251, h252, h255, h257⟩
  · go_enter Tryz.func60, Tryz.ntmps60
    go_wp2_with fail
    go_ret
    exact ⟨rfl, rfl⟩
  · go_enter Tryz.func60, Tryz.ntmps60
    go_wp2_with fail
    go_ret
    exact ⟨rfl, rfl⟩
  · go_enter Tryz.func60, Tryz.ntmps60
    go_wp2_with fail
    go_ret
    exact ⟨rfl, rfl⟩
  · go_enter Tryz.func60, Tryz.ntmps60
    go_wp2_with fail
    go_ret
    exact ⟨rfl, rfl⟩
  · go_enter Tryz.func60, Tryz.ntmps60
    go_wp2_with fail
    go_ret
    exact ⟨rfl, rfl⟩
  · go_enter Tryz.func60, Tryz.ntmps60
    go_wp2_with fail
    go_ret
    exact ⟨rfl, rfl⟩
  · go_enter Tryz.func60, Tryz.ntmps60
    go_wp2_with fail
    go_ret
    exact ⟨rfl, rfl⟩
  · go_enter Tryz.func60, Tryz.ntmps60
    go_wp2_with fail
    go_ret
    exact ⟨rfl, rfl⟩
  · go_enter Tryz.func60, Tryz.ntmps60
    go_wp2_with fail
    go_ret
    exact ⟨rfl, rfl⟩
  · go_enter Tryz.func60, Tryz.ntmps60
    go_wp2_with fail
    go_ret
    exact ⟨rfl, rfl⟩
  · go_enter Tryz.func60, Tryz.ntmps60
    go_wp2_with fail
    go_ret
    exact ⟨rfl, rfl⟩
  · go_enter Tryz.func60, Tryz.ntmps60
    go_wp2_with fail
    go_ret
    exact ⟨rfl, rfl⟩
  · go_enter Tryz.func60, Tryz.ntmps60
    go_wp2_with fail
    go_ret
    exact ⟨rfl, rfl⟩
  · go_enter Tryz.func60, Tryz.ntmps60
    go_wp2_with fail
    go_ret
    exact ⟨rfl, rfl⟩
  · go_enter Tryz.func60, Tryz.ntmps60
    go_wp2_with fail
    go_ret
    exact ⟨rfl, rfl⟩
  · go_enter Tryz.func60, Tryz.ntmps60
    go_wp2_with fail
    go_ret
    exact ⟨rfl, rfl⟩
  · go_enter Tryz.func60, Tryz.ntmps60
    go_wp2_with fail
    go_ret
    exact ⟨rfl, rfl⟩
  · go_enter Tryz.func60, Tryz.ntmps60
    go_wp2_with fail
    go_ret
    exact ⟨rfl, rfl⟩
  · go_enter Tryz.func60, Tryz.ntmps60
    go_wp2_with fail
    go_ret
    exact ⟨rfl, rfl⟩
  · go_enter Tryz.func60, Tryz.ntmps60
    go_wp2_with fail
    go_ret
    exact ⟨rfl, rfl⟩
  · go_enter Tryz.func60, Tryz.ntmps60
    go_wp2_with fail
    go_ret
    exact ⟨rfl, rfl⟩
  · go_enter Tryz.func60, Tryz.ntmps60
    go_wp2_with fail
    go_ret
    exact ⟨rfl, rfl⟩
  · go_enter Tryz.func60, Tryz.ntmps60
    go_wp2_with fail
    go_ret
    exact ⟨rfl, rfl⟩
  · rw [mnem_no h1 h2 h5 h6 h12 h13 h15 h16 h28 h33 h35 h39 h41 h43 h46 h47 h48 h50 h51 h251 h252 h255 h257]
    have b1 : (t == 1) = false := by rw [beq_eq_false_iff_ne]; exact h1
    have b2 : (t == 2) = false := by rw [beq_eq_false_iff_ne]; exact h2
    have b5 : (t == 5) = false := by rw [beq_eq_false_iff_ne]; exact h5
    have b6 : (t == 6) = false := by rw [beq_eq_false_iff_ne]; exact h6
    have b12 : (t == 12) = false := by rw [beq_eq_false_iff_ne]; exact h12
    have b13 : (t == 13) = false := by rw [beq_eq_false_iff_ne]; exact h13
    have b15 : (t == 15) = false := by rw [beq_eq_false_iff_ne]; exact h15
    have b16 : (t == 16) = false := by rw [beq_eq_false_iff_ne]; exact h16
    have b28 : (t == 28) = false := by rw [beq_eq_false_iff_ne]; exact h28
    have b33 : (t == 33) = false := by rw [beq_eq_false_iff_ne]; exact h33
    have b35 : (t == 35) = false := by rw [beq_eq_false_iff_ne]; exact h35
    have b39 : (t == 39) = false := by rw [beq_eq_false_iff_ne]; exact h39
    have b41 : (t == 41) = false := by rw [beq_eq_false_iff_ne]; exact h41
    have b43 : (t == 43) = false := by rw [beq_eq_false_iff_ne]; exact h43
    have b46 : (t == 46) = false := by rw [beq_eq_false_iff_ne]; exact h46
    have b47 : (t == 47) = false := by rw [beq_eq_false_iff_ne]; exact h47
    have b48 : (t == 48) = false := by rw [beq_eq_false_iff_ne]; exact h48
    have b50 : (t == 50) = false := by rw [beq_eq_false_iff_ne]; exact h50
    have b51 : (t == 51) = false := by rw [beq_eq_false_iff_ne]; exact h51
    have b251 : (t == 251) = false := by rw [beq_eq_false_iff_ne]; exact h251
    have b252 : (t == 252) = false := by rw [beq_eq_false_iff_ne]; exact h252
    have b255 : (t == 255) = false := by rw [beq_eq_false_iff_ne]; exact h255
    have b257 : (t == 257) = false := by rw [beq_eq_false_iff_ne]; exact h257
    clear h1 h2 h5 h6 h12 h13 h15 h16 h28 h33 h35 h39 h41 h43 h46 h47 h48 h50 h51 h251 h252 h255 h257
    go_enter Tryz.func60, Tryz.ntmps60
    go_wp2_with fail
    go_ret
    exact ⟨rfl, rfl⟩
theorem dec_len : ∀ (k u : Nat), u < 10 ^ (k + 1) → (Lib.decDigits u).length ≤ k + 1
  | 0, u, h => by
    rw [Lib.decDigits]
    simp only [show u < 10 by omega, dite_true, List.length_singleton]; omega
  | k + 1, u, h => by
    rw [Lib.decDigits]
    split
    · simp
    · have := dec_len k (u / 10) (by rw [Nat.pow_succ] at h; omega)
      simp; omega

theorem dec_base {v : Nat} (h : v < 10) : Lib.decDigits v = [UInt8.ofNat (48 + v)] := by rw [Lib.decDigits, dif_pos h]
theorem dec_step {v : Nat} (h : ¬ v < 10) : Lib.decDigits v = Lib.decDigits (v / 10) ++ [UInt8.ofNat (48 + v % 10)] := by rw [Lib.decDigits, dif_neg h]
theorem conv_one {d : UInt8} (X : ByteArray) (hX : (⟨#[d]⟩ : ByteArray) = X) {z : Int} (hz : z = (d.toNat : Int)) : ∀ (wx : World) (g : Nat), wx.cell? ⟨g, 0, none⟩ = some (.int .u8 z) → (convert 51 9 (.slice (some ⟨g, 0, none⟩) 1 1)).run Tryz.prog wx = .ok (.string X) wx := by
  intro wx g hx
  rw [← hX]
  rw [hz] at hx
  exact run_convert_bytes_back wx 51 9 5 ⟨g, 0, none⟩ 1 [d] Tryz.underlying51 Tryz.underlying5 Tryz.underlying9 (fun j hj => by
    have : j = 0 := by simpa using hj
    subst this
    exact hx)
theorem dec_val {v : Nat} (h : v < 10) : 48 + (v : Int) = ((UInt8.ofNat (48 + v)).toNat : Int) := by
  rw [UInt8.toNat_ofNat']; omega
theorem dec_rem (v : Nat) : IntKind.u8.wrap (IntKind.i64.wrap (48 + (v : Int).tmod 10)) = ((UInt8.ofNat (48 + v % 10)).toNat : Int) := by
  have e : (v : Int).tmod 10 = ((v % 10 : Nat) : Int) := by rw [Int.tmod_eq_emod_of_nonneg (by omega)]; omega
  rw [e, IntWalk.i64_in _ (by omega), IntKind.wrap_u8, UInt8.toNat_ofNat']; omega
set_option maxRecDepth 100000 in
set_option maxHeartbeats 2000000 in
theorem decimal_small (v : Nat) (w : World) (hv : v < 10) :
    Calls Tryz.prog 19 #[.int .i64 (v : Int)] w fun e w' => e = .returned (.string ⟨(Lib.decDigits v).toArray⟩) ∧ Below w.heap.size w w' := by
  obtain ⟨X, hX⟩ : ∃ X : ByteArray, (⟨#[UInt8.ofNat (48 + v)]⟩ : ByteArray) = X := ⟨_, rfl⟩
  have hconv := conv_one X hX (dec_val hv)
  have hF : Hid ((⟨(Lib.decDigits v).toArray⟩ : ByteArray) = X) := Lib.hid (by rw [dec_base hv, ← hX])
  have hvi : (v : Int) < 10 := by omega
  clear hX
  go_enter Tryz.func19, Tryz.ntmps19
  go_wp2_with fail
  go_ret
  rw [hF.out]
  exact ⟨rfl, (Below.refl _ _).alloc (Nat.le_refl _) _⟩
set_option maxRecDepth 100000 in
set_option maxHeartbeats 2000000 in
theorem decimal_any (n : Nat) : ∀ (v : Nat) (w : World), v < 10 ^ (n + 1) → n ≤ 15 →
    Calls Tryz.prog 19 #[.int .i64 (v : Int)] w fun e w' => e = .returned (.string ⟨(Lib.decDigits v).toArray⟩) ∧ Below w.heap.size w w' := by
  induction n with
  | zero => intro v w hv _; exact decimal_small v w (by omega)
  | succ n ih =>
    intro v w hv hn
    by_cases hs : v < 10
    · exact decimal_small v w hs
    obtain ⟨q, hq⟩ : ∃ q, v / 10 = q := ⟨_, rfl⟩
    have hp : 10 ^ (n + 1) ≤ 10 ^ 16 := Nat.pow_le_pow_right (by omega) (by omega)
    have hql : q < 10 ^ (n + 1) := by rw [Nat.pow_succ] at hv; omega
    have hvb : v < 100000000000000000 := by rw [Nat.pow_succ] at hv; omega
    obtain ⟨T, hT⟩ : ∃ T : ByteArray, (⟨(Lib.decDigits q).toArray⟩ : ByteArray) = T := ⟨_, rfl⟩
    obtain ⟨X, hX⟩ : ∃ X : ByteArray, (⟨#[UInt8.ofNat (48 + v % 10)]⟩ : ByteArray) = X := ⟨_, rfl⟩
    have hTs : T.size ≤ 17 := by rw [← hT, mk_size]; have := dec_len n q hql; omega
    have hXs : X.size ≤ 1 := by rw [← hX]; exact Nat.le_refl 1
    have IH := Lib.hid (fun w => ih q w hql (by omega))
    rw [hT] at IH
    have hbig : Hid ((⟨(Lib.decDigits v).toArray⟩ : ByteArray) = T ++ X) := Lib.hid (by rw [dec_step hs, hq, ← hT, ← hX]; exact ba_ext (by simp))
    have E1 : Hid (IntKind.i64.wrap ((v : Int) / 10) = (q : Int)) := Lib.hid (by rw [IntWalk.i64_in _ (by omega)]; omega)
    have hconv := conv_one X hX (dec_rem v)
    have hsi : (10 : Int) ≤ (v : Int) := by omega
    clear ih hq hT hX hv hp hql hs
    go_enter Tryz.func19, Tryz.ntmps19
    go_wp2_with fail
    go_region_with (go_at_call 19; rw [E1.out]; refine (IH.out _).mono ?_; rintro e w1 ⟨rfl, hB1⟩; have hcx := hB1.cell (p := ⟨w.heap.size, 0, none⟩))
    all_goals
      clear hcx hconv
      go_wp2
      go_ret
      rw [hbig.out]
      refine ⟨rfl, ?_⟩
      have hz := hB1.size
      have hd : Below w.heap.size w w.drew := (Below.refl _ _).drew
      first
        | exact (hd.trans hB1).alloc (by simpa using hz) _
        | exact (hd.alloc (Nat.le_refl _) _).trans (hB1.mono (by simp))
theorem below_growD (w : World) (k : Nat) (os : Array Obj) : Below w.heap.size w (Go.Sort.grow (w.drewN k) os) := by
  refine ⟨rfl, rfl, rfl, ?_, fun i hi => ?_⟩
  · simp [Go.Sort.grow, World.drewN]
  · simp [Go.Sort.grow, World.drewN, Array.getElem?_append_left hi]
open Go.Lib in
theorem digits_any (n : Int) (h0 : -9223372036854775808 ≤ n) (h1 : n ≤ 9223372036854775807) (w : World) (htab : Lib.TabIs Tryz.prog w "internal/strconv.uint64pow10" .u64 Lib.pow10Tab) :
    Calls Tryz.prog 13 #[.int .i64 n] w fun e w' => e = .returned (.string ⟨(Lib.itoa n).toArray⟩) ∧ Below w.heap.size w w' := by
  have CI := Lib.hid (Tryz.strconv_Itoa n h0 h1 w htab)
  clear htab
  go_enter Tryz.func13, Tryz.ntmps13
  go_wp2_with (go_at_call 28; refine CI.out.mono ?_; rintro e w1 ⟨rfl, k, os, rfl⟩)
  go_ret
  refine ⟨rfl, ?_⟩
  exact below_growD _ _ _
theorem tname_yes {t : Int} {n : Bt} (h : mnemS t = n) (hn : n.isEmpty = false) : tnameS t = n := by
  unfold tnameS; rw [h, hn]; rfl
theorem tname_out {t : Int} (h : mnemS t = []) (ho : t < 1 ∨ 65535 < t) : tnameS t = [] := by
  unfold tnameS; rw [h]; simp [ho]
theorem tname_in {t : Int} (h : mnemS t = []) (h1 : 1 ≤ t) (h2 : t ≤ 65535) : tnameS t = [84, 89, 80, 69] ++ Lib.itoa t := by
  unfold tnameS; rw [h]; show (if t < 1 ∨ 65535 < t then ([] : Bt) else _) = _; rw [if_neg (by omega)]
theorem itoa_nat {t : Int} (h : 0 ≤ t) : Lib.itoa t = Lib.decDigits t.toNat := by unfold Lib.itoa; rw [if_neg (by omega)]
theorem itoa_len {t : Int} (h : 0 ≤ t) (h2 : t ≤ 65535) : (Lib.itoa t).length ≤ 5 := by
  rw [itoa_nat h]; exact dec_len 4 _ (by omega)
set_option maxRecDepth 100000 in
set_option maxHeartbeats 4000000 in
theorem dtname_any (t : Int) (h0 : -9223372036854775808 ≤ t) (h1 : t ≤ 9223372036854775807) (w : World) (htab : Lib.TabIs Tryz.prog w "internal/strconv.uint64pow10" .u64 Lib.pow10Tab) :
    Calls Tryz.prog 29 #[.int .i64 t] w fun e w' => e = .returned (.string ⟨(tnameS t).toArray⟩) ∧ Below w.heap.size w w' := by
  have CD := Lib.hid (digits_any t h0 h1 w htab)
  clear htab
  rcases mnem_cases t with rfl | rfl | rfl | rfl | rfl | rfl | rfl | rfl | rfl | rfl | rfl | rfl | rfl | rfl | rfl | rfl | rfl | rfl | rfl | rfl | rfl | rfl | rfl | ⟨h1, h2, h5, h6, h12, h13, h15, h16, h28, h33, h35, h39, h41, h43, h46, h47, h48, h50, h51, h251, h252, h255, h257⟩
  · clear CD
    rw [tname_yes (n := [65]) rfl rfl]
    go_enter Tryz.func29, Tryz.ntmps29
    go_wp2_with fail
    go_ret
    exact ⟨rfl, Below.refl _ _⟩
  · clear CD
    rw [tname_yes (n := [78, 83]) rfl rfl]
    go_enter Tryz.func29, Tryz.ntmps29
    go_wp2_with fail
    go_ret
    exact ⟨rfl, Below.refl _ _⟩
  · clear CD
    rw [tname_yes (n := [67, 78, 65, 77, 69]) rfl rfl]
    go_enter Tryz.func29, Tryz.ntmps29
    go_wp2_with fail
    go_ret
    exact ⟨rfl, Below.refl _ _⟩
  · clear CD
    rw [tname_yes (n := [83, 79, 65]) rfl rfl]
    go_enter Tryz.func29, Tryz.ntmps29
    go_wp2_with fail
    go_ret
    exact ⟨rfl, Below.refl _ _⟩
  · clear CD
    rw [tname_yes (n := [80, 84, 82]) rfl rfl]
    go_enter Tryz.func29, Tryz.ntmps29
    go_wp2_with fail
    go_ret
    exact ⟨rfl, Below.refl _ _⟩
  · clear CD
    rw [tname_yes (n := [72, 73, 78, 70, 79]) rfl rfl]
    go_enter Tryz.func29, Tryz.ntmps29
    go_wp2_with fail
    go_ret
    exact ⟨rfl, Below.refl _ _⟩
  · clear CD
    rw [tname_yes (n := [77, 88]) rfl rfl]
    go_enter Tryz.func29, Tryz.ntmps29
    go_wp2_with fail
    go_ret
    exact ⟨rfl, Below.refl _ _⟩
  · clear CD
    rw [tname_yes (n := [84, 88, 84]) rfl rfl]
    go_enter Tryz.func29, Tryz.ntmps29
    go_wp2_with fail
    go_ret
    exact ⟨rfl, Below.refl _ _⟩
  · clear CD
    rw [tname_yes (n := [65, 65, 65, 65]) rfl rfl]
    go_enter Tryz.func29, Tryz.ntmps29
    go_wp2_with fail
    go_ret
    exact ⟨rfl, Below.refl _ _⟩
  · clear CD
    rw [tname_yes (n := [83, 82, 86]) rfl rfl]
    go_enter Tryz.func29, Tryz.ntmps29
    go_wp2_with fail
    go_ret
    exact ⟨rfl, Below.refl _ _⟩
  · clear CD
    rw [tname_yes (n := [78, 65, 80, 84, 82]) rfl rfl]
    go_enter Tryz.func29, Tryz.ntmps29
    go_wp2_with fail
    go_ret
    exact ⟨rfl, Below.refl _ _⟩
  · clear CD
    rw [tname_yes (n := [68, 78, 65, 77, 69]) rfl rfl]
    go_enter Tryz.func29, Tryz.ntmps29
    go_wp2_with fail
    go_ret
    exact ⟨rfl, Below.refl _ _⟩
  · clear CD
    rw [tname_yes (n := [79, 80, 84]) rfl rfl]
    go_enter Tryz.func29, Tryz.ntmps29
    go_wp2_with fail
    go_ret
    exact ⟨rfl, Below.refl _ _⟩
  · clear CD
    rw [tname_yes (n := [68, 83]) rfl rfl]
    go_enter Tryz.func29, Tryz.ntmps29
    go_wp2_with fail
    go_ret
    exact ⟨rfl, Below.refl _ _⟩
  · clear CD
    rw [tname_yes (n := [82, 82, 83, 73, 71]) rfl rfl]
    go_enter Tryz.func29, Tryz.ntmps29
    go_wp2_with fail
    go_ret
    exact ⟨rfl, Below.refl _ _⟩
  · clear CD
    rw [tname_yes (n := [78, 83, 69, 67]) rfl rfl]
    go_enter Tryz.func29, Tryz.ntmps29
    go_wp2_with fail
    go_ret
    exact ⟨rfl, Below.refl _ _⟩
  · clear CD
    rw [tname_yes (n := [68, 78, 83, 75, 69, 89]) rfl rfl]
    go_enter Tryz.func29, Tryz.ntmps29
    go_wp2_with fail
    go_ret
    exact ⟨rfl, Below.refl _ _⟩
  · clear CD
    rw [tname_yes (n := [78, 83, 69, 67, 51]) rfl rfl]
    go_enter Tryz.func29, Tryz.ntmps29
    go_wp2_with fail
    go_ret
    exact ⟨rfl, Below.refl _ _⟩
  · clear CD
    rw [tname_yes (n := [78, 83, 69, 67, 51, 80, 65, 82, 65, 77]) rfl rfl]
    go_enter Tryz.func29, Tryz.ntmps29
    go_wp2_with fail
    go_ret
    exact ⟨rfl, Below.refl _ _⟩
  · clear CD
    rw [tname_yes (n := [73, 88, 70, 82]) rfl rfl]
    go_enter Tryz.func29, Tryz.ntmps29
    go_wp2_with fail
    go_ret
    exact ⟨rfl, Below.refl _ _⟩
  · clear CD
    rw [tname_yes (n := [65, 88, 70, 82]) rfl rfl]
    go_enter Tryz.func29, Tryz.ntmps29
    go_wp2_with fail
    go_ret
    exact ⟨rfl, Below.refl _ _⟩
  · clear CD
    rw [tname_yes (n := [65, 78, 89]) rfl rfl]
    go_enter Tryz.func29, Tryz.ntmps29
    go_wp2_with fail
    go_ret
    exact ⟨rfl, Below.refl _ _⟩
  · clear CD
    rw [tname_yes (n := [67, 65, 65]) rfl rfl]
    go_enter Tryz.func29, Tryz.ntmps29
    go_wp2_with fail
    go_ret
    exact ⟨rfl, Below.refl _ _⟩
  · have hm := Lib.hid (mnem_no h1 h2 h5 h6 h12 h13 h15 h16 h28 h33 h35 h39 h41 h43 h46 h47 h48 h50 h51 h251 h252 h255 h257)
    have b1 : (t == 1) = false := by rw [beq_eq_false_iff_ne]; exact h1
    have b2 : (t == 2) = false := by rw [beq_eq_false_iff_ne]; exact h2
    have b5 : (t == 5) = false := by rw [beq_eq_false_iff_ne]; exact h5
    have b6 : (t == 6) = false := by rw [beq_eq_false_iff_ne]; exact h6
    have b12 : (t == 12) = false := by rw [beq_eq_false_iff_ne]; exact h12
    have b13 : (t == 13) = false := by rw [beq_eq_false_iff_ne]; exact h13
    have b15 : (t == 15) = false := by rw [beq_eq_false_iff_ne]; exact h15
    have b16 : (t == 16) = false := by rw [beq_eq_false_iff_ne]; exact h16
    have b28 : (t == 28) = false := by rw [beq_eq_false_iff_ne]; exact h28
    have b33 : (t == 33) = false := by rw [beq_eq_false_iff_ne]; exact h33
    have b35 : (t == 35) = false := by rw [beq_eq_false_iff_ne]; exact h35
    have b39 : (t == 39) = false := by rw [beq_eq_false_iff_ne]; exact h39
    have b41 : (t == 41) = false := by rw [beq_eq_false_iff_ne]; exact h41
    have b43 : (t == 43) = false := by rw [beq_eq_false_iff_ne]; exact h43
    have b46 : (t == 46) = false := by rw [beq_eq_false_iff_ne]; exact h46
    have b47 : (t == 47) = false := by rw [beq_eq_false_iff_ne]; exact h47
    have b48 : (t == 48) = false := by rw [beq_eq_false_iff_ne]; exact h48
    have b50 : (t == 50) = false := by rw [beq_eq_false_iff_ne]; exact h50
    have b51 : (t == 51) = false := by rw [beq_eq_false_iff_ne]; exact h51
    have b251 : (t == 251) = false := by rw [beq_eq_false_iff_ne]; exact h251
    have b252 : (t == 252) = false := by rw [beq_eq_false_iff_ne]; exact h252
    have b255 : (t == 255) = false := by rw [beq_eq_false_iff_ne]; exact h255
    have b257 : (t == 257) = false := by rw [beq_eq_false_iff_ne]; exact h257
    clear h1 h2 h5 h6 h12 h13 h15 h16 h28 h33 h35 h39 h41 h43 h46 h47 h48 h50 h51 h251 h252 h255 h257
    by_cases hlo : t < 1
    · rw [tname_out hm.out (.inl hlo)]
      clear CD
      go_enter Tryz.func29, Tryz.ntmps29
      go_wp2_with fail
      go_ret
      exact ⟨rfl, Below.refl _ _⟩
    by_cases hhi : 65535 < t
    · rw [tname_out hm.out (.inr hhi)]
      have hlo2 : 1 ≤ t := by omega
      clear CD
      go_enter Tryz.func29, Tryz.ntmps29
      go_wp2_with fail
      go_ret
      exact ⟨rfl, Below.refl _ _⟩
    · have hlo2 : 1 ≤ t := by omega
      have hhi2 : t ≤ 65535 := by omega
      have hF := Lib.hid (tname_in hm.out hlo2 hhi2)
      obtain ⟨D, hD⟩ : ∃ D : ByteArray, (⟨(Lib.itoa t).toArray⟩ : ByteArray) = D := ⟨_, rfl⟩
      have hDs : D.size ≤ 5 := by rw [← hD, mk_size]; exact itoa_len (by omega) hhi2
      have hFD : Hid ((⟨(tnameS t).toArray⟩ : ByteArray) = ⟨#[84, 89, 80, 69]⟩ ++ D) := Lib.hid (by rw [hF.out, ← hD]; exact ba_ext (by simp))
      rw [hD] at CD
      clear hD hlo hhi
      go_enter Tryz.func29, Tryz.ntmps29
      go_wp2_with (go_at_call 13; refine CD.out.mono ?_; rintro e w1 ⟨rfl, hB1⟩)
      go_ret
      rw [hFD.out]
      exact ⟨rfl, hB1⟩
theorem mk_emp {l : Bt} (h : l.isEmpty = false) : (⟨l.toArray⟩ : ByteArray).toList.isEmpty = false := by rw [Lib.toList_data]; exact h
set_option maxRecDepth 100000 in
set_option maxHeartbeats 4000000 in
theorem rtname_any (t : Int) (w : World) :
    Calls Tryz.prog 35 #[.int .i64 t] w fun e w' => e = .returned (.string ⟨(tnameS t).toArray⟩) ∧ Below w.heap.size w w' := by
  have CM := Lib.hid (mnem_any t w)
  obtain ⟨M, hM⟩ : ∃ M, mnemS t = M := ⟨_, rfl⟩
  have HM := Lib.hid hM
  rw [hM] at CM
  clear hM
  cases hE : M.isEmpty with
  | false =>
    rw [tname_yes HM.out hE]
    have he := mk_emp hE
    obtain ⟨B, hB⟩ : ∃ B : ByteArray, (⟨M.toArray⟩ : ByteArray) = B := ⟨_, rfl⟩
    rw [hB] at CM he ⊢
    clear hB hE
    go_enter Tryz.func35, Tryz.ntmps35
    go_wp2_with (go_at_call 60; refine CM.out.mono ?_; rintro e w1 ⟨rfl, rfl⟩)
    go_ret
    exact ⟨rfl, Below.refl _ _⟩
  | true =>
    obtain rfl : M = [] := List.isEmpty_iff.1 hE
    clear hE
    by_cases hlo : t < 1
    · rw [tname_out HM.out (.inl hlo)]
      go_enter Tryz.func35, Tryz.ntmps35
      go_wp2_with (go_at_call 60; refine CM.out.mono ?_; rintro e w1 ⟨rfl, rfl⟩)
      go_ret
      exact ⟨rfl, Below.refl _ _⟩
    by_cases hhi : 65535 < t
    · rw [tname_out HM.out (.inr hhi)]
      have hlo2 : 1 ≤ t := by omega
      go_enter Tryz.func35, Tryz.ntmps35
      go_wp2_with (go_at_call 60; refine CM.out.mono ?_; rintro e w1 ⟨rfl, rfl⟩)
      go_ret
      exact ⟨rfl, Below.refl _ _⟩
    · have hlo2 : 1 ≤ t := by omega
      have hhi2 : t ≤ 65535 := by omega
      have hF := Lib.hid (tname_in HM.out hlo2 hhi2)
      rw [itoa_nat (by omega)] at hF
      obtain ⟨v, rfl⟩ : ∃ v : Nat, t = (v : Int) := ⟨t.toNat, by omega⟩
      have CD := Lib.hid (fun w => decimal_any 4 v w (by omega) (by omega))
      have hl := dec_len 4 v (by omega)
      rw [Int.toNat_natCast] at hF
      obtain ⟨D, hD⟩ : ∃ D : ByteArray, (⟨(Lib.decDigits v).toArray⟩ : ByteArray) = D := ⟨_, rfl⟩
      have hDs : D.size ≤ 5 := by rw [← hD, mk_size]; exact hl
      have hFD : Hid ((⟨(tnameS (v : Int)).toArray⟩ : ByteArray) = ⟨#[84, 89, 80, 69]⟩ ++ D) := Lib.hid (by rw [hF.out, ← hD]; exact ba_ext (by simp))
      rw [hD] at CD
      clear hD hlo hhi hl
      go_enter Tryz.func35, Tryz.ntmps35
      go_wp2_with (first | (go_at_call 60; refine CM.out.mono ?_; rintro e w1 ⟨rfl, rfl⟩) | (go_at_call 19; refine (CD.out _).mono ?_; rintro e w2 ⟨rfl, hB2⟩))
      go_ret
      rw [hFD.out]
      exact ⟨rfl, hB2⟩
end Go.Proofs.YtjejmgdpjfdhjaaGreatDoor.tname
namespace Go.Proofs.YtjejmgdpjfdhjaaGreatDoor.dshow
open Go.Proofs.YtjejmgdpjfdhjaaGreatDoor.nspec Go.Proofs.YtjejmgdpjfdhjaaGreatDoor.bits Go.Proofs.YtjejmgdpjfdhjaaGreatDoor.fld Go.Proofs.YtjejmgdpjfdhjaaGreatDoor.tname Go.Proofs.YtjejmgdpjfdhjaaGreatDoor.to32 Go.Proofs.YtjejmgdpjfdhjaaGreatDoor.showA Go.Proofs.YtjejmgdpjfdhjaaGreatDoor.showB Go.Proofs.YtjejmgdpjfdhjaaGreatDoor.val
set_option linter.unusedVariables false

def set16 : List UInt8 := [48, 49, 50, 51, 52, 53, 54, 55, 56, 57, 97, 98, 99, 100, 101, 102]
def set64 : List UInt8 := [65, 66, 67, 68, 69, 70, 71, 72, 73, 74, 75, 76, 77, 78, 79, 80, 81, 82, 83, 84, 85, 86, 87, 88, 89, 90, 97, 98, 99, 100, 101, 102, 103, 104, 105, 106, 107, 108, 109, 110, 111, 112, 113, 114, 115, 116, 117, 118, 119, 120, 121, 122, 48, 49, 50, 51, 52, 53, 54, 55, 56, 57, 43, 47]
def quoteB (c : UInt8) : Bs := if c = 34 ∨ c = 92 then [92, c] else if c.toNat < 32 ∨ 126 < c.toNat then 92 :: escL c else [c]
def quoteS (d : Bs) : Bs := 34 :: (d.flatMap quoteB ++ [34])
def hexS (d : Bs) : Bs := enc 4 set16 (bitsL d)
def padS (s : Bs) : Bs := s ++ List.replicate ((4 - s.length % 4) % 4) 61
def b64S (d : Bs) : Bs := padS (enc 6 set64 (bitsL d))

theorem quoteB_len (c : UInt8) : (quoteB c).length ≤ 4 := by
  unfold quoteB; split
  · simp
  · split
    · simp [escL]
    · simp
theorem quote_len (d : Bs) : (d.flatMap quoteB).length ≤ 4 * d.length := by
  induction d with
  | nil => simp
  | cons c r ih => have := quoteB_len c; simp only [List.flatMap_cons, List.length_append, List.length_cons]; omega
theorem quoteS_len (d : Bs) : (quoteS d).length ≤ 4 * d.length + 2 := by
  have := quote_len d; simp only [quoteS, List.length_cons, List.length_append, List.length_nil]; omega

theorem tob_split (v n m : Nat) : tob v (n + m) = tob (v / 2 ^ m) n ++ tob v m := by
  have h := tob_append (v / 2 ^ m) (v % 2 ^ m) n m (Nat.mod_lt _ (Nat.two_pow_pos m))
  rw [Nat.div_add_mod', tob_mod v m m (Nat.le_refl _)] at h
  exact h
theorem hex_step (c : UInt8) (r : Bs) : hexS (c :: r) = [set16.getD (c.toNat / 16) 0, set16.getD (c.toNat % 16) 0] ++ hexS r := by
  have hc := c.toNat_lt
  unfold hexS
  rw [bits_cons, show (8 : Nat) = 4 + 4 from rfl, tob_split, List.append_assoc, enc_full _ _ _ (by omega) (tob_length _ _), enc_full _ _ _ (by omega) (tob_length _ _), ofb_tob, ofb_tob]
  rw [show c.toNat / 2 ^ 4 % 2 ^ 4 = c.toNat / 16 by omega]
  rfl
theorem hex_nil : hexS [] = [] := rfl
theorem hex_len (d : Bs) : (hexS d).length = 2 * d.length := by
  induction d with
  | nil => rfl
  | cons c r ih => rw [hex_step, List.length_append, ih]; simp; omega

def sext (v k : Nat) : UInt8 := set64.getD (v / 2 ^ (18 - 6 * k) % 64) 0
theorem b64_three (a b c : UInt8) (r : Bs) : b64S (a :: b :: c :: r) = [sext (valL [a, b, c] 0) 0, sext (valL [a, b, c] 0) 1, sext (valL [a, b, c] 0) 2, sext (valL [a, b, c] 0) 3] ++ b64S r := by
  have ha := a.toNat_lt; have hb := b.toNat_lt; have hc := c.toNat_lt
  have e : bitsL (a :: b :: c :: r) = tob (valL [a, b, c] 0) 24 ++ bitsL r := by
    simp only [bits_cons, valL]
    have e1 := tob_append (a.toNat * 256 + b.toNat) c.toNat 16 8 hc
    have e2 := tob_append a.toNat b.toNat 8 8 hb
    simp only [show (2 : Nat) ^ 8 = 256 from rfl] at e1 e2
    rw [show (0 * 256 + a.toNat) = a.toNat by omega, show (24 : Nat) = 16 + 8 from rfl, e1, show (16 : Nat) = 8 + 8 from rfl, e2]
    simp
  unfold b64S
  rw [e]
  obtain ⟨v, hv⟩ : ∃ v, valL [a, b, c] 0 = v := ⟨_, rfl⟩
  rw [hv, show (24 : Nat) = 6 + 18 from rfl, tob_split, show (18 : Nat) = 6 + 12 from rfl, tob_split v 6 12, show (12 : Nat) = 6 + 6 from rfl, tob_split v 6 6]
  simp only [List.append_assoc]
  rw [enc_full _ _ _ (by omega) (tob_length _ _), enc_full _ _ _ (by omega) (tob_length _ _), enc_full _ _ _ (by omega) (tob_length _ _), enc_full _ _ _ (by omega) (tob_length _ _)]
  simp only [ofb_tob]
  unfold padS sext
  simp only [List.length_cons, List.cons_append, List.nil_append]
  rw [show (enc 6 set64 (bitsL r)).length + 1 + 1 + 1 + 1 = (enc 6 set64 (bitsL r)).length + 4 by omega, Nat.add_mod_right]
  simp
theorem b64_two (a b : UInt8) : b64S [a, b] = [sext (valL [a, b, 0] 0) 0, sext (valL [a, b, 0] 0) 1, sext (valL [a, b, 0] 0) 2, 61] := by
  have ha := a.toNat_lt; have hb := b.toNat_lt
  have e : bitsL [a, b] = tob (a.toNat * 256 + b.toNat) 16 := by
    have e2 := tob_append a.toNat b.toNat 8 8 hb
    simp only [show (2 : Nat) ^ 8 = 256 from rfl] at e2
    rw [show (16 : Nat) = 8 + 8 from rfl, e2]; simp [bitsL]
  unfold b64S
  rw [e]
  obtain ⟨v, hv⟩ : ∃ v, a.toNat * 256 + b.toNat = v := ⟨_, rfl⟩
  have hvl : valL [a, b, 0] 0 = v * 256 := by simp only [valL]; rw [← hv]; simp
  rw [hv, hvl, show (16 : Nat) = 6 + 10 from rfl, tob_split, show (10 : Nat) = 6 + 4 from rfl, tob_split v 6 4]
  rw [enc_full _ _ _ (by omega) (tob_length _ _), enc_full _ _ _ (by omega) (tob_length _ _), enc_last _ _ (by rw [tob_length]; omega) (by rw [tob_length]; omega)]
  simp only [ofb_tob, tob_length]
  unfold padS sext
  have h1 : v / 2 ^ (6 + 4) % 2 ^ 6 = v * 256 / 2 ^ (18 - 6 * 0) % 64 := by omega
  have h2 : v / 2 ^ 4 % 2 ^ 6 = v * 256 / 2 ^ (18 - 6 * 1) % 64 := by omega
  have h3 : v % 2 ^ 4 * 2 ^ (6 - 4) = v * 256 / 2 ^ (18 - 6 * 2) % 64 := by omega
  rw [h1, h2, h3]; rfl
theorem b64_one (a : UInt8) : b64S [a] = [sext (valL [a, 0, 0] 0) 0, sext (valL [a, 0, 0] 0) 1, 61, 61] := by
  have ha := a.toNat_lt
  have e : bitsL [a] = tob a.toNat 8 := by simp [bitsL]
  unfold b64S
  rw [e]
  obtain ⟨v, hv⟩ : ∃ v, a.toNat = v := ⟨_, rfl⟩
  have hvl : valL [a, 0, 0] 0 = v * 65536 := by simp only [valL]; rw [← hv]; simp; omega
  rw [hv, hvl, show (8 : Nat) = 6 + 2 from rfl, tob_split]
  rw [enc_full _ _ _ (by omega) (tob_length _ _), enc_last _ _ (by rw [tob_length]; omega) (by rw [tob_length]; omega)]
  simp only [ofb_tob, tob_length]
  unfold padS sext
  have h1 : v / 2 ^ 2 % 2 ^ 6 = v * 65536 / 2 ^ (18 - 6 * 0) % 64 := by omega
  have h2 : v % 2 ^ 2 * 2 ^ (6 - 2) = v * 65536 / 2 ^ (18 - 6 * 1) % 64 := by omega
  rw [h1, h2]; rfl
theorem b64_nil : b64S [] = [] := rfl

/-- the words of a row of texts, one after the other -/
def textsF2 : Nat → Bs → List Bs
  | 0, _ => []
  | _ + 1, [] => []
  | f + 1, c :: r => quoteS (r.take c.toNat) :: textsF2 f (r.drop c.toNat)
def textsW (d : Bs) : List Bs := textsF2 (d.length + 1) d
theorem texts2_fuel : ∀ (f g : Nat) (d : Bs), d.length < f → d.length < g → textsF2 f d = textsF2 g d
  | 0, _, _, h, _ => by omega
  | _ + 1, 0, _, _, h => by omega
  | f + 1, g + 1, [], _, _ => rfl
  | f + 1, g + 1, c :: r, h1, h2 => by
    simp only [List.length_cons] at h1 h2
    simp only [textsF2]
    rw [texts2_fuel f g _ (by rw [List.length_drop]; omega) (by rw [List.length_drop]; omega)]
theorem textsW_cons (c : UInt8) (r : Bs) : textsW (c :: r) = quoteS (r.take c.toNat) :: textsW (r.drop c.toNat) := by
  unfold textsW
  rw [textsF2, texts2_fuel _ ((r.drop c.toNat).length + 1) _ (by rw [List.length_drop, List.length_cons]; omega) (by omega)]
theorem textsW_nil : textsW [] = [] := rfl

/-- an address of sixteen bytes -/
def hexNF : Nat → Nat → Bs
  | 0, _ => []
  | f + 1, n => if n < 16 then [set16.getD n 0] else hexNF f (n / 16) ++ [set16.getD (n % 16) 0]
def hexN (n : Nat) : Bs := hexNF 4 n
def group (d : Bs) (k : Nat) : Nat := (d.getD (2 * k) 0).toNat * 256 + (d.getD (2 * k + 1) 0).toNat
def zeroG (d : Bs) (k : Nat) : Bool := d.getD (2 * k) 0 == 0 && d.getD (2 * k + 1) 0 == 0
def zAt (z : List Bool) (k : Nat) : Bool := z.getD k false
/-- how many noughts stand from k on -/
def runZ (z : List Bool) : Nat → Nat → Nat
  | 0, _ => 0
  | f + 1, k => if k < 8 ∧ zAt z k = true then 1 + runZ z f (k + 1) else 0
def bestF (z : List Bool) : Nat → Nat → Int → Nat → Int × Nat
  | 0, _, a, m => (a, m)
  | f + 1, k, a, m => if m < runZ z 8 k then bestF z f (k + 1) k (runZ z 8 k) else bestF z f (k + 1) a m
def bestS (z : List Bool) : Int × Nat := bestF z 8 0 (-1) 1
def allZ (z : List Bool) (k m : Nat) : Bool := ((z.drop k).take m).all id
def tryM (z : List Bool) (k : Nat) : Nat → Nat → Nat × Nat → Nat × Nat
  | 0, _, p => p
  | f + 1, m, p => if k + m ≤ 8 then tryM z k f (m + 1) (if allZ z k m = true ∧ p.2 < m then (k, m) else p) else p
def refF (z : List Bool) : Nat → Nat → Nat × Nat → Nat × Nat
  | 0, _, p => p
  | f + 1, k, p => refF z f (k + 1) (tryM z k 8 2 p)
def refZ (z : List Bool) : Nat × Nat := refF z 8 0 (0, 0)
def agree (z : List Bool) : Bool :=
  (decide ((bestS z).1 = -1) && decide ((refZ z).2 = 0) && decide ((bestS z).2 = 1)) || (decide ((bestS z).1 = ((refZ z).1 : Int)) && decide ((bestS z).2 = (refZ z).2) && decide (2 ≤ (refZ z).2) && decide ((refZ z).1 + (refZ z).2 ≤ 8))
set_option maxRecDepth 100000 in
theorem agree_all : ∀ a b c d e f g h : Bool, agree [a, b, c, d, e, f, g, h] = true := by decide +kernel

def colon (h : List Bs) : Bs := match h with
  | [] => []
  | x :: r => x ++ r.flatMap (fun y => 58 :: y)
/-- how the code goes over the groups -/
def outF (h : List Bs) (a : Int) (m : Nat) : Nat → Nat → Bs
  | 0, _ => []
  | f + 1, k => if 8 ≤ k then [] else if (k : Int) = a then [58, 58] ++ outF h a m f (k + m) else (if 0 < k ∧ (k : Int) ≠ a + m then [58] else if 0 < k ∧ a < 0 then [58] else []) ++ h.getD k [] ++ outF h a m f (k + 1)
def outS (h : List Bs) (a : Int) (m : Nat) : Bs := outF h a m 9 0
def refOut (h : List Bs) (a m : Nat) : Bs := if m = 0 then colon h else colon (h.take a) ++ [58, 58] ++ colon (h.drop (a + m))
theorem out_none (h0 h1 h2 h3 h4 h5 h6 h7 : Bs) : outS [h0, h1, h2, h3, h4, h5, h6, h7] (-1) 1 = refOut [h0, h1, h2, h3, h4, h5, h6, h7] 0 0 := by
  simp [outS, outF, refOut, colon]
theorem out_some (h0 h1 h2 h3 h4 h5 h6 h7 : Bs) : ∀ a m : Nat, 2 ≤ m → a + m ≤ 8 → outS [h0, h1, h2, h3, h4, h5, h6, h7] (a : Int) m = refOut [h0, h1, h2, h3, h4, h5, h6, h7] a m := by
  intro a m h2 h8
  have ha : a = 0 ∨ a = 1 ∨ a = 2 ∨ a = 3 ∨ a = 4 ∨ a = 5 ∨ a = 6 := by omega
  have hm : m = 2 ∨ m = 3 ∨ m = 4 ∨ m = 5 ∨ m = 6 ∨ m = 7 ∨ m = 8 := by omega
  rcases ha with rfl | rfl | rfl | rfl | rfl | rfl | rfl <;> rcases hm with rfl | rfl | rfl | rfl | rfl | rfl | rfl <;> first | (exfalso; omega) | simp [outS, outF, refOut, colon]
def stripF : Nat → Bs → Bs
  | f + 1, c :: d :: r => if c = 48 then stripF f (d :: r) else c :: d :: r
  | _, l => l
def stripS (l : Bs) : Bs := stripF l.length l
def grpS (d : Bs) (k : Nat) : Bs := hexN (group d k)
def hs6 (d : Bs) : List Bs := (List.range 8).map (grpS d)
def zs6 (d : Bs) : List Bool := (List.range 8).map (zeroG d)
def ip6S (d : Bs) : Bs := outS (hs6 d) (bestS (zs6 d)).1 (bestS (zs6 d)).2
theorem nib (n : Nat) (h : n < 16) : set16.getD n 0 = 48 ↔ n = 0 := by
  have : ∀ n : Fin 16, set16.getD n.val 0 = 48 ↔ n.val = 0 := by decide
  exact this ⟨n, h⟩
theorem strip_hex (a b : UInt8) : stripS (hexS [a, b]) = hexN (a.toNat * 256 + b.toNat) := by
  have ha := a.toNat_lt; have hb := b.toNat_lt
  rw [hex_step, hex_step, hex_nil]
  obtain ⟨n, hn⟩ : ∃ n, a.toNat * 256 + b.toNat = n := ⟨_, rfl⟩
  have n1 : a.toNat / 16 = n / 4096 := by omega
  have n2 : a.toNat % 16 = n / 256 % 16 := by omega
  have n3 : b.toNat / 16 = n / 16 % 16 := by omega
  have n4 : b.toNat % 16 = n % 16 := by omega
  rw [n1, n2, n3, n4, hn]
  have k1 := nib (n / 4096) (by omega)
  have k2 := nib (n / 256 % 16) (by omega)
  have k3 := nib (n / 16 % 16) (by omega)
  have k4 := nib (n % 16) (by omega)
  by_cases h1 : n < 16
  · have e1 : n / 4096 = 0 := by omega
    have e2 : n / 256 % 16 = 0 := by omega
    have e3 : n / 16 % 16 = 0 := by omega
    have e4 : n % 16 = n := by omega
    rw [e1, e2, e3, e4]
    simp [stripS, stripF, hexN, hexNF, h1, set16]
  · by_cases h2 : n < 256
    · have e1 : n / 4096 = 0 := by omega
      have e2 : n / 256 % 16 = 0 := by omega
      have e3 : n / 16 % 16 = n / 16 := by omega
      have e5 : ¬ n / 16 = 0 := by omega
      have e6 : n / 16 < 16 := by omega
      rw [e3] at k3 ⊢
      have z3 : set16.getD (n / 16) 0 ≠ 48 := fun h => e5 (k3.1 h)
      have z1 : set16.getD 0 0 = (48 : UInt8) := rfl
      rw [e1, e2, z1]
      simp [stripS, stripF, hexN, hexNF, h1, e6]
      intro h; exact absurd h (by simpa using z3)
    · by_cases h3 : n < 4096
      · have e1 : n / 4096 = 0 := by omega
        have e2 : n / 256 % 16 = n / 256 := by omega
        have e5 : ¬ n / 256 = 0 := by omega
        have e6 : n / 16 / 16 < 16 := by omega
        have e7 : ¬ n / 16 < 16 := by omega
        have e8 : n / 16 / 16 = n / 256 := by omega
        rw [e2] at k2 ⊢
        have z2 : set16.getD (n / 256) 0 ≠ 48 := fun h => e5 (k2.1 h)
        have z1 : set16.getD 0 0 = (48 : UInt8) := rfl
        rw [e1, z1]
        rw [e8] at e6
        simp [stripS, stripF, hexN, hexNF, h1, e7, e8, e6]
        intro h; exact absurd h (by simpa using z2)
      · have e5 : ¬ n / 4096 = 0 := by omega
        have e7 : ¬ n / 16 < 16 := by omega
        have e8 : n / 16 / 16 = n / 256 := by omega
        have e9 : ¬ n / 256 < 16 := by omega
        have e10 : n / 256 / 16 = n / 4096 := by omega
        have e11 : n / 4096 < 16 := by omega
        have z1 : set16.getD (n / 4096) 0 ≠ 48 := fun h => e5 (k1.1 h)
        simp [stripS, stripF, hexN, hexNF, h1, e7, e8, e9, e10, e11]
        intro h; exact absurd h (by simpa using z1)

def ip4S (d : Bs) : Bs := Lib.decDigits (d.getD 0 0).toNat ++ [46] ++ Lib.decDigits (d.getD 1 0).toNat ++ [46] ++ Lib.decDigits (d.getD 2 0).toNat ++ [46] ++ Lib.decDigits (d.getD 3 0).toNat
def saltS (d : Bs) : Bs := if d.length = 1 then [45] else hexS (d.drop 1)
/-- the words of one field -/
def showF : Fld → Bs → List Bs
  | .num _, d => [Lib.decDigits (valL d 0)]
  | .ip4, d => [ip4S d]
  | .ip6, d => [ip6S d]
  | .host, d => [showS d]
  | .text, d => [quoteS (d.drop 1)]
  | .texts, d => textsW d
  | .tail, d => [quoteS d]
  | .hexes, d => [hexS d]
  | .b64, d => [b64S d]
  | .kind, d => [tnameS ((valL d 0 : Nat) : Int)]
  | .kinds, d => ((typesS d).getD []).map (fun t => tnameS ((t : Nat) : Int))
  | .salt, d => [saltS d]
  | .hash, d => [to32S (d.drop 1)]
def wordsL : List Fld → List Bs → List Bs
  | f :: fs, x :: p => showF f x ++ wordsL fs p
  | _, _ => []
def joinS : List Bs → Bs
  | [] => []
  | x :: r => x ++ r.flatMap (fun y => 32 :: y)
def showDS (t : Int) (d : Bs) : Bs := if checkS t d = 0 then (match formS t, partsS t d with | some fs, some p => joinS (wordsL fs p) | _, _ => [92, 35, 32] ++ Lib.decDigits d.length ++ (if d = [] then [] else 32 :: hexS d)) else []

/-- a part is what its field takes -/
def OkP (f : Fld) (x : Bs) : Prop := takeS f x = (x.length : Int)
theorem ok_text {c : UInt8} {r : Bs} (h : ¬ r.length < c.toNat) : textS ((c :: r).take (1 + c.toNat)) = 1 + (c.toNat : Int) := by
  rw [Nat.add_comm 1, List.take_succ_cons]
  simp only [textS, List.length_take]
  rw [if_neg (by omega)]
theorem texts_whole : ∀ (f at0 : Nat) (d : Bs), 0 ≤ textsF f at0 d → textsF f at0 d = (at0 : Int) + d.length
  | 0, at0, d, h => by simp [textsF] at h
  | f + 1, at0, [], h => by
    simp only [textsF] at h ⊢
    split at h
    · omega
    · rename_i h0; rw [if_neg h0]; simp
  | f + 1, at0, c :: r, h => by
    simp only [textsF] at h ⊢
    split at h
    · omega
    · rename_i h0
      rw [if_neg h0, texts_whole f _ _ h]
      rw [List.length_drop, List.length_cons]; omega
theorem host_part {d : Bs} {m : Nat} (h : hostS d = (m : Int)) : hostS (d.take m) = (m : Int) ∧ m ≤ d.length := by
  have hle := (hostS_le d).1
  unfold hostS at h
  cases hf : (List.range 256).find? (fun k => (split (d.take k)).isSome) with
  | none => rw [hf] at h; simp at h
  | some k =>
    rw [hf] at h
    have hkm : k = m := by have h' : (k : Int) = m := by simpa using h
                           omega
    subst hkm
    obtain ⟨h1, h2, h3⟩ := List.find?_range_eq_some.1 hf
    refine ⟨?_, by unfold hostS at hle; rw [hf] at hle; simpa using hle⟩
    have : (List.range 256).find? (fun j => (split ((d.take k).take j)).isSome) = some k := by
      rw [List.find?_range_eq_some]
      refine ⟨by rw [List.take_take, Nat.min_self]; exact h1, h2, fun j hj => ?_⟩
      rw [List.take_take, Nat.min_eq_left (by omega)]; exact h3 j hj
    unfold hostS
    rw [this]
theorem ok_take {f : Fld} {d : Bs} {m : Nat} (h : takeS f d = (m : Int)) : OkP f (d.take m) := by
  have hle := (takeS_le f d).1
  rw [h] at hle
  have hl : (d.take m).length = m := by rw [List.length_take]; omega
  unfold OkP
  rw [hl]
  have whole : m = d.length → takeS f (d.take m) = (m : Int) := fun e => by rw [e, List.take_length, ← e]; exact h
  cases f with
  | num k => simp only [takeS] at h ⊢; rw [hl]; split at h <;> split <;> omega
  | ip4 => simp only [takeS] at h ⊢; rw [hl]; split at h <;> split <;> omega
  | ip6 => simp only [takeS] at h ⊢; rw [hl]; split at h <;> split <;> omega
  | host => exact (host_part h).1
  | text =>
    cases d with
    | nil => simp only [takeS, textS] at h; omega
    | cons c r =>
      simp only [takeS, textS] at h
      split at h
      · omega
      · rename_i h0
        obtain rfl : m = 1 + c.toNat := by omega
        show textS _ = _
        rw [ok_text h0]; omega
  | salt =>
    cases d with
    | nil => simp only [takeS, textS] at h; omega
    | cons c r =>
      simp only [takeS, textS] at h
      split at h
      · omega
      · rename_i h0
        obtain rfl : m = 1 + c.toNat := by omega
        show textS _ = _
        rw [ok_text h0]; omega
  | hash =>
    cases d with
    | nil => simp [takeS] at h
    | cons c r =>
      simp only [takeS] at h ⊢
      split at h
      · omega
      · rename_i hz
        simp only [textS] at h
        split at h
        · omega
        · rename_i h0
          obtain rfl : m = 1 + c.toNat := by omega
          rw [if_neg, ok_text h0]
          · omega
          · rw [Nat.add_comm 1, List.take_succ_cons]
            simpa using hz
  | texts =>
    refine whole ?_
    simp only [takeS, textsS] at h
    have := texts_whole _ _ _ (by rw [h]; omega)
    omega
  | tail => exact whole (by simp only [takeS] at h; omega)
  | hexes =>
    refine whole ?_
    simp only [takeS, someS] at h
    split at h <;> omega
  | b64 =>
    refine whole ?_
    simp only [takeS, someS] at h
    split at h <;> omega
  | kind =>
    simp only [takeS] at h ⊢
    split at h
    · omega
    · rename_i hz
      obtain rfl : m = 2 := by omega
      have h2 : 2 ≤ d.length := by
        rcases Nat.lt_or_ge d.length 2 with h' | h'
        · exact absurd (Or.inl h') hz
        · exact h'
      match d, h2, hz with
      | a :: b :: r, _, hz =>
        rw [if_neg]; · rfl
        intro hc; apply hz
        rcases hc with hc | hc
        · simp at hc
        · exact .inr (by simpa using hc)
  | kinds =>
    refine whole ?_
    simp only [takeS] at h
    split at h <;> omega
theorem ok_parts : ∀ (fs : List Fld) (d : Bs) (p : List Bs) (r : Bs), splitS fs d = some (p, r) → ∀ (k : Nat) (f : Fld) (x : Bs), fs[k]? = some f → p[k]? = some x → OkP f x
  | [], d, p, r, h, k, f, x, hf, hx => by simp at hf
  | g :: fs, d, p, r, h, k, f, x, hf, hx => by
    simp only [splitS] at h
    split at h
    · cases h
    · rename_i hn
      cases hs : splitS fs (d.drop (takeS g d).toNat) with
      | none => rw [hs] at h; cases h
      | some q =>
        rw [hs] at h
        simp only [Option.map_some, Option.some.injEq, Prod.mk.injEq] at h
        obtain ⟨rfl, rfl⟩ := h
        cases k with
        | zero =>
          simp only [List.getElem?_cons_zero, Option.some.injEq] at hf hx
          subst hf; subst hx
          exact ok_take (m := (takeS g d).toNat) (by omega)
        | succ k =>
          simp only [List.getElem?_cons_succ] at hf hx
          exact ok_parts fs _ _ _ hs k f x hf hx

/-- how long words are, put together with blanks -/
def totW (ls : List Bs) : Nat := (ls.map (fun x => x.length + 1)).sum
theorem totW_nil : totW [] = 0 := rfl
theorem totW_cons (x : Bs) (r : List Bs) : totW (x :: r) = x.length + 1 + totW r := rfl
theorem totW_append (a b : List Bs) : totW (a ++ b) = totW a + totW b := by simp [totW]
theorem totW_count (ls : List Bs) : ls.length ≤ totW ls := by
  induction ls with
  | nil => simp
  | cons x r ih => rw [totW_cons, List.length_cons]; omega
theorem totW_mem {ls : List Bs} {x : Bs} (h : x ∈ ls) : x.length + 1 ≤ totW ls := by
  induction ls with
  | nil => cases h
  | cons y r ih =>
    rw [totW_cons]
    rcases List.mem_cons.1 h with rfl | h
    · omega
    · have := ih h; omega
theorem flat_len (r : List Bs) : (r.flatMap (fun y => (32 : UInt8) :: y)).length = totW r := by
  induction r with
  | nil => rfl
  | cons x r ih => rw [totW_cons, List.flatMap_cons, List.length_append, ih, List.length_cons]
theorem join_len (ls : List Bs) : (joinS ls).length ≤ totW ls := by
  cases ls with
  | nil => simp [joinS]
  | cons x r => rw [totW_cons]; simp only [joinS, List.length_append, flat_len]; omega
theorem valL_lt : ∀ (l : Bs) (v : Nat), valL l v < (v + 1) * 256 ^ l.length
  | [], v => by simp [valL]
  | c :: r, v => by
    have h := valL_lt r (v * 256 + c.toNat)
    have hc := c.toNat_lt
    rw [valL, List.length_cons, Nat.pow_succ]
    refine Nat.lt_of_lt_of_le h ?_
    rw [Nat.mul_comm (256 ^ r.length) 256, ← Nat.mul_assoc]
    exact Nat.mul_le_mul_right _ (by omega)
theorem valL_four {l : Bs} (h : l.length ≤ 4) : valL l 0 < 4294967296 := by
  have h1 := valL_lt l 0
  have h2 : 256 ^ l.length ≤ 256 ^ 4 := Nat.pow_le_pow_right (by omega) h
  omega
theorem valL_two {l : Bs} (h : l.length ≤ 2) : valL l 0 < 65536 := by
  have h1 := valL_lt l 0
  have h2 : 256 ^ l.length ≤ 256 ^ 2 := Nat.pow_le_pow_right (by omega) h
  omega
theorem dec_byte (c : UInt8) : (Lib.decDigits c.toNat).length ≤ 3 := dec_len 2 _ (by have := c.toNat_lt; omega)
theorem ip4_len (d : Bs) : (ip4S d).length ≤ 15 := by
  have h0 := dec_byte (d.getD 0 0); have h1 := dec_byte (d.getD 1 0); have h2 := dec_byte (d.getD 2 0); have h3 := dec_byte (d.getD 3 0)
  simp only [ip4S, List.length_append, List.length_cons, List.length_nil]; omega
theorem hexN_len (n : Nat) : 1 ≤ (hexN n).length ∧ (hexN n).length ≤ 4 := by
  have h : ∀ f n, (hexNF f n).length ≤ f := by
    intro f
    induction f with
    | zero => intro n; simp [hexNF]
    | succ f ih => intro n; simp only [hexNF]; split
                   · simp
                   · have := ih (n / 16); simp; exact this
  refine ⟨?_, h 4 n⟩
  unfold hexN
  rw [hexNF]; split
  · simp
  · simp
theorem outF_len (h : List Bs) (hh : ∀ x ∈ h, x.length ≤ 4) (a : Int) (m : Nat) : ∀ f k, (outF h a m f k).length ≤ 5 * f
  | 0, k => by simp [outF]
  | f + 1, k => by
    have h1 := outF_len h hh a m f (k + m)
    have h2 := outF_len h hh a m f (k + 1)
    have h3 : (h.getD k []).length ≤ 4 := by
      rw [List.getD]
      cases e : h[k]? with
      | none => simp
      | some x => exact hh x (List.mem_of_getElem? e)
    simp only [outF]
    split
    · simp
    · split
      · simp only [List.length_append, List.length_cons, List.length_nil]; omega
      · simp only [List.length_append]
        split
        · simp only [List.length_cons, List.length_nil]; omega
        · split
          · simp only [List.length_cons, List.length_nil]; omega
          · simp only [List.length_nil]; omega
theorem hs6_len (d : Bs) : ∀ x ∈ hs6 d, x.length ≤ 4 := by
  intro x hx
  obtain ⟨k, _, rfl⟩ := List.mem_map.1 hx
  exact (hexN_len _).2
theorem ip6_len (d : Bs) : (ip6S d).length ≤ 45 := outF_len _ (hs6_len d) _ _ _ _
theorem mnem_len (t : Int) : (mnemS t).length ≤ 10 := by
  unfold mnemS
  cases h : mnemL.find? (·.1 == t) with
  | none => simp
  | some p =>
    have hm := List.mem_of_find?_eq_some h
    have : ∀ p ∈ mnemL, p.2.length ≤ 10 := by decide
    exact this p hm
theorem tname_len (t : Int) : (tnameS t).length ≤ 10 := by
  have h := mnem_len t
  unfold tnameS
  split
  · split
    · simp
    · rename_i ht
      have := itoa_len (t := t) (by omega) (by omega)
      simp; omega
  · exact h
theorem pick_len (b : Nat) : ∀ (l : List Nat) (k : Nat), (pickL b k l).length ≤ l.length
  | [], k => by simp [pickL]
  | x :: l, k => by
    have := pick_len b l (k + 1)
    simp only [pickL]; split
    · simp only [List.length_cons]; omega
    · simp only [List.length_cons]; omega
theorem types_len : ∀ (f : Nat) (last : Int) (out : List Nat) (d : Bs) (l : List Nat), typesF f last out d = some l → l.length ≤ out.length + 8 * d.length
  | 0, last, out, d, l, h => by simp [typesF] at h
  | f + 1, last, out, [], l, h => by
    have e : out = l := by simpa [typesF] using h
    rw [← e]; omega
  | f + 1, last, out, [b], l, h => by simp [typesF] at h
  | f + 1, last, out, b :: n :: m, l, h => by
    simp only [typesF] at h
    split at h
    · cases h
    · have h1 := types_len f _ _ _ _ h
      have h2 := pick_len b.toNat (bitsL (m.take n.toNat)) 0
      rw [bitsL_len] at h2
      rw [List.length_append, List.length_drop] at h1
      rw [List.length_take] at h2
      unfold blockL at h1
      simp only [List.length_cons]; omega
theorem types_count {d : Bs} {l : List Nat} (h : typesS d = some l) : l.length ≤ 8 * d.length := by
  unfold typesS at h
  cases e : typesF (d.length + 1) (-1) [] d with
  | none => rw [e] at h; cases h
  | some l' =>
    rw [e] at h
    simp only at h
    split at h
    · cases h
    · have : l' = l := by simpa using h
      subst this
      have := types_len _ _ _ _ _ e
      simpa using this
theorem pad_len (s : Bs) : (padS s).length ≤ s.length + 3 := by simp only [padS, List.length_append, List.length_replicate]; omega
theorem showS_len (d : Bs) : (showS d).length ≤ 1100 := by
  unfold showS
  split
  · simp
  · simp
  · rename_i ls h1 h2
    have hN := split_iff.1 h2
    have hr := isN_room hN
    have := show_len ls
    omega
theorem textsW_len : ∀ (f : Nat) (d : Bs), d.length < f → 0 ≤ textsF f 1 d → totW (textsF2 f d) ≤ 4 * d.length
  | 0, d, h, _ => by omega
  | f + 1, [], h, _ => by simp [textsF2, totW]
  | f + 1, c :: r, h, h0 => by
    simp only [List.length_cons] at h ⊢
    simp only [textsF] at h0
    split at h0
    · omega
    · rename_i hc
      have hany : ∀ (f : Nat) (a b : Nat) (d : Bs), 1 ≤ a → 1 ≤ b → 0 ≤ textsF f a d → 0 ≤ textsF f b d := by
        intro f
        induction f with
        | zero => intro a b d _ _ h; simp [textsF] at h
        | succ f ih =>
          intro a b d ha hb h
          cases d with
          | nil => simp only [textsF]; rw [if_neg (by omega)]; omega
          | cons c r =>
            simp only [textsF] at h ⊢
            split at h
            · omega
            · rename_i hc; rw [if_neg hc]; exact ih _ _ _ (by omega) (by omega) h
      have h1 := textsW_len f (r.drop c.toNat) (by rw [List.length_drop]; omega) (hany _ _ _ _ (by omega) (by omega) h0)
      have h2 := quoteS_len (r.take c.toNat)
      rw [List.length_take] at h2
      rw [List.length_drop] at h1
      rw [textsF2, totW_cons]
      omega
def Num4 (f : Fld) : Prop := ∀ k, f = .num k → k ≤ 4
theorem show_tot {f : Fld} {x : Bs} (h : OkP f x) (h4 : Num4 f) : totW (showF f x) ≤ 1200 + 100 * x.length := by
  have one : ∀ y : Bs, totW [y] = y.length + 1 := fun y => rfl
  unfold OkP at h
  cases f with
  | num k =>
    have hk := h4 k rfl
    simp only [takeS] at h
    have hl : x.length ≤ 4 := by split at h <;> omega
    have := dec_len 9 (valL x 0) (by have := valL_four hl; omega)
    rw [showF, one]; omega
  | ip4 => have := ip4_len x; rw [showF, one]; omega
  | ip6 => have := ip6_len x; rw [showF, one]; omega
  | host => have := showS_len x; rw [showF, one]; omega
  | text => have := quoteS_len (x.drop 1); rw [List.length_drop] at this; rw [showF, one]; omega
  | texts =>
    cases x with
    | nil => simp [showF, textsW, textsF2, totW]
    | cons c r =>
      have h0 : 0 ≤ textsF ((c :: r).length + 1) 1 (c :: r) := by
        simp only [takeS, textsS, textsF] at h ⊢
        split at h
        · omega
        · rename_i hc
          rw [if_neg hc]
          have hany : ∀ (f : Nat) (a b : Nat) (d : Bs), 1 ≤ a → 1 ≤ b → 0 ≤ textsF f a d → 0 ≤ textsF f b d := by
            intro f
            induction f with
            | zero => intro a b d _ _ h; simp [textsF] at h
            | succ f ih =>
              intro a b d ha hb h
              cases d with
              | nil => simp only [textsF]; rw [if_neg (by omega)]; omega
              | cons c r =>
                simp only [textsF] at h ⊢
                split at h
                · omega
                · rename_i hc; rw [if_neg hc]; exact ih _ _ _ (by omega) (by omega) h
          exact hany _ (0 + (1 + c.toNat)) (1 + (1 + c.toNat)) _ (by omega) (by omega) (by rw [h]; exact Int.natCast_nonneg _)
      have := textsW_len _ _ (by omega) h0
      rw [showF]; unfold textsW; omega
  | tail => have := quoteS_len x; rw [showF, one]; omega
  | hexes => have := hex_len x; rw [showF, one]; omega
  | b64 =>
    have h1 := pad_len (enc 6 set64 (bitsL x))
    have h2 := enc_len 6 set64 (by omega) (bitsL x)
    rw [bitsL_len] at h2
    rw [showF, one]; unfold b64S; omega
  | kind => have := tname_len ((valL x 0 : Nat) : Int); rw [showF, one]; omega
  | kinds =>
    rw [showF]
    cases e : typesS x with
    | none => simp [totW]
    | some l =>
      have h1 := types_count e
      have h2 : ∀ l : List Nat, totW (l.map (fun t => tnameS ((t : Nat) : Int))) ≤ 11 * l.length := by
        intro l
        induction l with
        | nil => simp [totW]
        | cons t r ih => have := tname_len ((t : Nat) : Int); rw [List.map_cons, totW_cons, List.length_cons]; omega
      have := h2 l
      simp only [Option.getD_some]; omega
  | salt =>
    rw [showF, one]
    unfold saltS
    split
    · simp; omega
    · have := hex_len (x.drop 1); rw [List.length_drop] at this; omega
  | hash =>
    have h2 := enc_len 5 set32 (by omega) (bitsL (x.drop 1))
    rw [bitsL_len, List.length_drop] at h2
    rw [showF, one]; unfold to32S; omega
theorem words_go {A : List Bs} {R : List Bs} {fs : List Fld} {p : List Bs} {k : Nat} {f : Fld} {x : Bs} (h : A ++ wordsL (fs.drop k) (p.drop k) = R) (hf : fs[k]? = some f) (hx : p[k]? = some x) : (A ++ showF f x) ++ wordsL (fs.drop (k + 1)) (p.drop (k + 1)) = R := by
  obtain ⟨h1, h2⟩ := List.getElem?_eq_some_iff.1 hf
  obtain ⟨h3, h4⟩ := List.getElem?_eq_some_iff.1 hx
  rw [List.drop_eq_getElem_cons h1, h2, List.drop_eq_getElem_cons h3, h4, wordsL] at h
  rw [← h]; simp
end Go.Proofs.YtjejmgdpjfdhjaaGreatDoor.dshow
namespace Go.Proofs.YtjejmgdpjfdhjaaGreatDoor.checkAll
open Go.RowKit Go.Proofs.YtjejmgdpjfdhjaaGreatDoor.kit Go.Proofs.YtjejmgdpjfdhjaaGreatDoor.check
theorem check_all (n : ByteArray) (w : World) :
    Calls Tryz.prog 24 #[.string n] w fun e w' => e = .returned (.int .i64 (chkE n)) ∧ Below w.heap.size w w' := by
  by_cases h1 : 255 < (n.size : Int)
  · exact check_long n w h1
  · exact check_any n w (by omega)
end Go.Proofs.YtjejmgdpjfdhjaaGreatDoor.checkAll
