/- Digests: gazetteerref4.half, Digest; seal's sum.add: walks. -/
import Derived.Test.YtjflojefpaffeaaBig
import Derived.BigRegion
namespace Go.Proofs.Ytjflojefpaffeaa.half
open Go.RowKit Go.Proofs.Ytjflojefpaffeaa.kit Go.Proofs.Ytjflojefpaffeaa.bld Go.Proofs.Ytjflojefpaffeaa.big
set_option linter.unusedVariables false

def halfL (t p : Nat) : List UInt8 → Nat → Nat
  | [], h => h
  | c :: r, h => halfL t p r ((h * t + c.toNat + 1) % p)
theorem halfL_lt (t p : Nat) (hp : 1 ≤ p) : ∀ (l : List UInt8) (h : Nat), h < p → halfL t p l h < p
  | [], h, hh => hh
  | c :: r, h, hh => halfL_lt t p hp r _ (Nat.mod_lt _ hp)
def p1 : Nat := 1099511627689
def p2 : Nat := 1099511627563
def digestS (l : List UInt8) : List UInt8 := bigS (halfL 1000003 p1 l 1) 5 ++ bigS (halfL 999983 p2 l 1) 5
theorem digest_len (l : List UInt8) : (digestS l).length = 10 := by unfold digestS; rw [List.length_append, bigS_len, bigS_len]
theorem mul_le {h t p : Nat} (hh : h < p) (hp : p ≤ 1099511627776) (ht : t ≤ 1048576) : h * t ≤ 1152921504606846976 := by
  have h1 := Nat.mul_le_mul (show h ≤ 1099511627776 by omega) ht
  exact Nat.le_trans h1 (by decide)

set_option maxRecDepth 100000 in
set_option maxHeartbeats 1000000 in
theorem half_any (s : ByteArray) (t p : Nat) (w : World) (hs : s.size ≤ 1099511627776) (ht : t ≤ 1048576) (hp2 : 2 ≤ p) (hp : p ≤ 1099511627776) :
    Calls Try.prog 89 #[.string s, .int .i64 (t : Int), .int .i64 (p : Int)] w fun e w' => e = .returned (.int .i64 ((halfL t p s.data.toList 1 : Nat) : Int)) ∧ w = w' := by
  obtain ⟨R, HR⟩ : ∃ R, Hid (halfL t p (s.data.toList.drop 0) 1 = R) := ⟨_, Lib.hid rfl⟩
  rw [show s.data.toList = s.data.toList.drop 0 from rfl, HR.out]
  go_enter Try.func89, Try.ntmps89
  go_wp2
  go_loopg [7, 8] (s.size + 1) (fun gas hv kv wr => ∃ (k h : Nat), kv = .int .i64 k ∧ hv = .int .i64 h ∧ k ≤ s.size ∧ k + gas = s.size + 1 ∧ h < p ∧ Hid (halfL t p (s.data.toList.drop k) h = R) ∧ w = wr)
  case atStart => exact ⟨0, 1, rfl, rfl, by omega, by omega, by omega, HR, rfl⟩
  case round =>
    obtain ⟨k, h, rfl, rfl, hk, hkg, hh, HW, rfl⟩ := hrel
    have HK := Lib.hid hkg; clear hkg
    by_cases hlt : k < s.size
    · obtain ⟨c, hc⟩ : ∃ c, s[k] = c := ⟨_, rfl⟩
      have hc256 := byte_lt c
      obtain ⟨M, hM⟩ : ∃ M, h * t = M := ⟨_, rfl⟩
      have hM2 : M ≤ 1152921504606846976 := by rw [← hM]; exact mul_le hh hp ht
      obtain ⟨S, hS⟩ : ∃ S, M + c.toNat + 1 = S := ⟨_, rfl⟩
      obtain ⟨H, hH⟩ : ∃ H, S % p = H := ⟨_, rfl⟩
      have hHp : H < p := by rw [← hH]; exact Nat.mod_lt _ (by omega)
      have HW2 : Hid (halfL t p (s.data.toList.drop (k + 1)) H = R) := Lib.hid (by
        rw [← HW.out, drop_cons s k hlt, hc, halfL, hM, hS, hH])
      have e1 : Value.int .i64 (wrap64 ((h : Int) * (t : Int))) = Value.int .i64 (M : Int) := by
        have e : (h : Int) * (t : Int) = (M : Int) := by rw [← hM]; simp
        rw [e, IntWalk.wrap64_in _ (by omega)]
      have e2 : Value.int .i64 ((M : Int) + (c.toNat : Int) + 1) = Value.int .i64 (S : Int) := by congr 1; omega
      have e3 : Value.int .i64 ((S : Int) % (p : Int)) = Value.int .i64 (H : Int) := by congr 1; rw [← hH]; simp
      clear hM hS hH
      go_wp2
      have hkg := HK.out
      go_roundg (gk - 1)
      case rel => exact ⟨k + 1, _, by go_num, (by first | exact e3 | rfl), by omega, by omega, hHp, HW2, rfl⟩
      case measure => omega
    · have HN := HW.out
      rw [drop_end s k (by omega)] at HN
      have HE : Hid (h = R) := Lib.hid HN
      clear HN
      go_wp2
      go_ret
      exact ⟨by rw [HE.out]; rfl, rfl⟩

set_option maxRecDepth 100000 in
set_option maxHeartbeats 1000000 in
theorem rdigest_any (s : ByteArray) (w : World) (hs : s.size ≤ 1099511627776) :
    Calls Try.prog 34 #[.string s] w fun e w' => e = .returned (.string ⟨(digestS s.data.toList).toArray⟩) ∧ Below w.heap.size w w' := by
  obtain ⟨D1, hD1⟩ : ∃ D : ByteArray, (⟨(bigS (halfL 1000003 p1 s.data.toList 1) 5).toArray⟩ : ByteArray) = D := ⟨_, rfl⟩
  obtain ⟨D2, hD2⟩ : ∃ D : ByteArray, (⟨(bigS (halfL 999983 p2 s.data.toList 1) 5).toArray⟩ : ByteArray) = D := ⟨_, rfl⟩
  have hs1 : D1.size ≤ 5 := by rw [← hD1, mk_size, bigS_len]; exact Nat.le_refl 5
  have hs2 : D2.size ≤ 5 := by rw [← hD2, mk_size, bigS_len]; exact Nat.le_refl 5
  have HE : Hid ((⟨(digestS s.data.toList).toArray⟩ : ByteArray) = D1 ++ D2) := Lib.hid (by rw [← hD1, ← hD2]; exact ba_ext (by simp [digestS]))
  rw [HE.out]
  have h1 := halfL_lt 1000003 p1 (by decide) s.data.toList 1 (by decide)
  have h2 := halfL_lt 999983 p2 (by decide) s.data.toList 1 (by decide)
  have hb1 : halfL 1000003 p1 s.data.toList 1 ≤ 4611686018427387904 := Nat.le_trans (Nat.le_of_lt h1) (by decide)
  have hb2 : halfL 999983 p2 s.data.toList 1 ≤ 4611686018427387904 := Nat.le_trans (Nat.le_of_lt h2) (by decide)
  clear h1 h2
  have C1 := Lib.hid (fun w => half_any s 1000003 p1 w hs (by decide) (by decide) (by decide))
  have C2 := Lib.hid (fun w => half_any s 999983 p2 w hs (by decide) (by decide) (by decide))
  have B1 := Lib.hid (fun w => rbytes_any 5 (halfL 1000003 p1 s.data.toList 1) w hb1 (by decide))
  have B2 := Lib.hid (fun w => rbytes_any 5 (halfL 999983 p2 s.data.toList 1) w hb2 (by decide))
  rw [hD1] at B1
  rw [hD2] at B2
  clear hD1 hD2 hb1 hb2
  go_enter Try.func34, Try.ntmps34
  go_wp2_with fail
  refine (C1.out _).mono ?_
  rintro e w1 ⟨rfl, rfl⟩
  go_wp2_with fail
  refine (B1.out _).mono ?_
  rintro e w1 ⟨rfl, hB1⟩
  go_wp2_with fail
  refine (C2.out _).mono ?_
  rintro e w2 ⟨rfl, rfl⟩
  go_wp2_with fail
  refine (B2.out _).mono ?_
  rintro e w2 ⟨rfl, hB2⟩
  go_wp2
  go_ret
  exact ⟨rfl, hB1.trans (hB2.mono hB1.size)⟩

set_option maxRecDepth 100000 in
set_option maxHeartbeats 1000000 in
theorem add_any (g o : Nat) (h t p : Nat) (c : UInt8) (w : World) (c0 : w.cell? ⟨g, o, none⟩ = some (.int .i64 (h : Int))) (c1 : w.cell? ⟨g, o + 1, none⟩ = some (.int .i64 (t : Int))) (c2 : w.cell? ⟨g, o + 2, none⟩ = some (.int .i64 (p : Int)))
    (f0 : w.frozen? ⟨g, o, none⟩ = false) (hh : h < p) (ht : t ≤ 1048576) (hp2 : 2 ≤ p) (hp : p ≤ 1099511627776) :
    Calls Try.prog 85 #[.pointer (some ⟨g, o, none⟩), .int .u8 (c.toNat : Int)] w fun e w' => e = .returned (.tuple #[]) ∧ w' = (w.setCell ⟨g, o, none⟩ (.int .i64 (((h * t + c.toNat + 1) % p : Nat) : Int))).drew := by
  have hc256 := byte_lt c
  obtain ⟨M, hM⟩ : ∃ M, h * t = M := ⟨_, rfl⟩
  have hM2 : M ≤ 1152921504606846976 := by rw [← hM]; exact mul_le hh hp ht
  obtain ⟨S, hS⟩ : ∃ S, M + c.toNat + 1 = S := ⟨_, rfl⟩
  obtain ⟨H, hH⟩ : ∃ H, S % p = H := ⟨_, rfl⟩
  rw [hM, hS, hH]
  have HX : Hid ((wrap64 (wrap64 (wrap64 ((h : Int) * (t : Int)) + (c.toNat : Int)) + 1)).tmod (p : Int) = (H : Int)) := Lib.hid (by
    have e : (h : Int) * (t : Int) = (M : Int) := by rw [← hM]; simp
    rw [e, IntWalk.wrap64_in (M : Int) (by omega), IntWalk.wrap64_in ((M : Int) + (c.toNat : Int)) (by omega), IntWalk.wrap64_in ((M : Int) + (c.toNat : Int) + 1) (by omega), Int.tmod_eq_emod_of_nonneg (by omega)]
    rw [show (M : Int) + (c.toNat : Int) + 1 = (S : Int) by omega, ← hH]; simp)
  have hp1i : (1 : Int) ≤ (p : Int) := by omega
  clear hM hS hH
  go_enter Try.func85, Try.ntmps85
  go_wp2_with fail
  go_region
  go_end0
  refine ⟨rfl, ?_⟩
  rw [HX.out]
end Go.Proofs.Ytjflojefpaffeaa.half
