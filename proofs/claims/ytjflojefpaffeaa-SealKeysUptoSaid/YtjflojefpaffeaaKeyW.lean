/- Primes and the greatest common divisor: walks. -/
import Derived.Test.YtjflojefpaffeaaKeysP
import Derived.Test.YtjflojefpaffeaaKit
namespace Go.Proofs.Ytjflojefpaffeaa.keyW
open Go.RowKit Go.Proofs.Ytjflojefpaffeaa.kit Go.Proofs.Ytjflojefpaffeaa.keysP
set_option linter.unusedVariables false

/-- what is said of a number is whether it is a prime -/
def Says (n : Nat) (w : World) (e : Ending) (w' : World) : Prop := ∃ b : Bool, e = .returned (.bool b) ∧ (b = true ↔ PrimeP n) ∧ w = w'
theorem says_yes {n : Nat} {w : World} (h : PrimeP n) : Says n w (.returned (.bool true)) w := ⟨true, rfl, ⟨fun _ => h, fun _ => rfl⟩, rfl⟩
theorem says_no {n : Nat} {w : World} (h : ¬ PrimeP n) : Says n w (.returned (.bool false)) w := ⟨false, rfl, ⟨fun h' => (by cases h'), fun h' => absurd h' h⟩, rfl⟩
theorem sq_le {k n : Nat} (h : k * k ≤ n) (hn : n ≤ 2147483648) : k ≤ 46341 := by
  rcases Nat.lt_or_ge k 46342 with h1 | h1
  · omega
  · have := Nat.mul_le_mul h1 h1; omega

set_option maxRecDepth 100000 in
set_option maxHeartbeats 1000000 in
theorem nprime_any (n : Nat) (w : World) (h2 : 2 ≤ n) (hn : n ≤ 2147483648) :
    Calls Try.prog 102 #[.int .i64 (n : Int)] w (Says n w) := by
  go_enter Try.func102, Try.ntmps102
  go_wp2
  go_loopg [3] (46343) (fun gas kv wr => ∃ (k : Nat), kv = .int .i64 k ∧ 2 ≤ k ∧ k ≤ 46342 ∧ k + gas = 46345 ∧ Hid (∀ j, 2 ≤ j → j < k → n % j ≠ 0) ∧ w = wr)
  case atStart => exact ⟨2, rfl, by omega, by omega, by omega, Lib.hid (by omega), rfl⟩
  case round =>
    obtain ⟨k, rfl, hk2, hk, hkg, HJ, rfl⟩ := hrel
    have HK := Lib.hid hkg; clear hkg
    obtain ⟨S, hS⟩ : ∃ S, k * k = S := ⟨_, rfl⟩
    have hSb : S ≤ 46342 * 46342 := by rw [← hS]; exact Nat.mul_le_mul hk hk
    have e1 : Value.int .i64 (wrap64 ((k : Int) * (k : Int))) = Value.int .i64 (S : Int) := by
      have e : (k : Int) * (k : Int) = (S : Int) := by rw [← hS]; simp
      rw [e, IntWalk.wrap64_in _ (by omega)]
    have hk2i : (2 : Int) ≤ (k : Int) := by omega
    by_cases hle : S ≤ n
    · have hk1 := sq_le (by rw [hS]; exact hle) hn
      obtain ⟨t, ht⟩ : ∃ t, n % k = t := ⟨_, rfl⟩
      have e2 : Value.int .i64 ((n : Int) % (k : Int)) = Value.int .i64 (t : Int) := by congr 1; rw [← ht]; simp
      have hlei : (S : Int) ≤ (n : Int) := by omega
      by_cases ht0 : t = 0
      · have HN : Hid (¬ PrimeP n) := Lib.hid (fun h => h.2 k hk2 (by rw [hS]; exact hle) (by rw [ht]; exact ht0))
        have hb : ((t : Int) == 0) = true := by rw [beq_iff_eq]; omega
        clear hS ht ht0
        go_wp2
        go_ret
        exact says_no HN.out
      · have HJ2 : Hid (∀ j, 2 ≤ j → j < k + 1 → n % j ≠ 0) := Lib.hid (by
          intro j a b
          rcases Nat.lt_or_ge j k with h | h
          · exact HJ.out j a h
          · have : j = k := by omega
            subst this; rw [ht]; exact ht0)
        have hb : ((t : Int) == 0) = false := by rw [beq_eq_false_iff_ne]; omega
        clear hS ht ht0
        go_wp2
        have hkg := HK.out
        go_roundg (gk - 1)
        case rel => exact ⟨k + 1, by go_num, by omega, by omega, by omega, HJ2, rfl⟩
        case measure => omega
    · have HN : Hid (PrimeP n) := Lib.hid (by
        refine ⟨h2, fun j a b => ?_⟩
        refine HJ.out j a ?_
        rcases Nat.lt_or_ge j k with h | h
        · exact h
        · have := Nat.mul_le_mul h h; omega)
      have hlei : (n : Int) < (S : Int) := by omega
      clear hS
      go_wp2
      go_ret
      exact says_yes HN.out

set_option maxRecDepth 100000 in
set_option maxHeartbeats 1000000 in
theorem rprime_any (n : Nat) (w : World) (h2 : 2 ≤ n) (hn : n ≤ 2147483648) :
    Calls Try.prog 104 #[.int .i64 (n : Int)] w (Says n w) := by
  by_cases hq0 : n % 2 = 0
  · have hb : ((n : Int) % 2 == 0) = true := by rw [beq_iff_eq]; omega
    have HP := Lib.hid (prime_even h2 (by omega))
    by_cases hn2 : n = 2
    · have hb2 : ((n : Int) == 2) = true := by rw [beq_iff_eq]; omega
      have HN := Lib.hid (HP.out.2 hn2)
      clear hq0 hn2
      go_enter Try.func104, Try.ntmps104
      go_wp2
      go_ret
      exact says_yes HN.out
    · have hb2 : ((n : Int) == 2) = false := by rw [beq_eq_false_iff_ne]; omega
      have HN : Hid (¬ PrimeP n) := Lib.hid (fun h => hn2 (HP.out.1 h))
      clear hq0 hn2
      go_enter Try.func104, Try.ntmps104
      go_wp2
      go_ret
      exact says_no HN.out
  · have hb : ((n : Int) % 2 == 0) = false := by rw [beq_eq_false_iff_ne]; omega
    have HP := Lib.hid (prime_odd h2 (by omega))
    have h1i : (1 : Int) < (n : Int) := by omega
    clear hq0
    go_enter Try.func104, Try.ntmps104
    go_wp2
    go_loopg [3] (23173) (fun gas kv wr => ∃ (k : Nat), kv = .int .i64 k ∧ 3 ≤ k ∧ k ≤ 46344 ∧ k + 2 * gas = 46349 ∧ Hid (k % 2 = 1) ∧ Hid (∀ j, 3 ≤ j → j % 2 = 1 → j < k → n % j ≠ 0) ∧ w = wr)
    case atStart => exact ⟨3, rfl, by omega, by omega, by omega, Lib.hid rfl, Lib.hid (by omega), rfl⟩
    case round =>
      obtain ⟨k, rfl, hk2, hk, hkg, HO, HJ, rfl⟩ := hrel
      have HK := Lib.hid hkg; clear hkg
      obtain ⟨S, hS⟩ : ∃ S, k * k = S := ⟨_, rfl⟩
      have hSb : S ≤ 46344 * 46344 := by rw [← hS]; exact Nat.mul_le_mul hk hk
      have e1 : Value.int .i64 (wrap64 ((k : Int) * (k : Int))) = Value.int .i64 (S : Int) := by
        have e : (k : Int) * (k : Int) = (S : Int) := by rw [← hS]; simp
        rw [e, IntWalk.wrap64_in _ (by omega)]
      have hk2i : (2 : Int) ≤ (k : Int) := by omega
      by_cases hle : S ≤ n
      · have hk1 := sq_le (by rw [hS]; exact hle) hn
        obtain ⟨t, ht⟩ : ∃ t, n % k = t := ⟨_, rfl⟩
        have e2 : Value.int .i64 ((n : Int) % (k : Int)) = Value.int .i64 (t : Int) := by congr 1; rw [← ht]; simp
        have hlei : (S : Int) ≤ (n : Int) := by omega
        by_cases ht0 : t = 0
        · have HN : Hid (¬ PrimeP n) := Lib.hid (fun h => h.2 k (by omega) (by rw [hS]; exact hle) (by rw [ht]; exact ht0))
          have hb : ((t : Int) == 0) = true := by rw [beq_iff_eq]; omega
          clear hS ht ht0
          go_wp2
          go_ret
          exact says_no HN.out
        · have HJ2 : Hid (∀ j, 3 ≤ j → j % 2 = 1 → j < k + 2 → n % j ≠ 0) := Lib.hid (by
            intro j a o b
            have ho := HO.out
            rcases Nat.lt_or_ge j k with h | h
            · exact HJ.out j a o h
            · have : j = k := by omega
              subst this; rw [ht]; exact ht0)
          have HO2 : Hid ((k + 2) % 2 = 1) := Lib.hid (by have := HO.out; omega)
          have hb : ((t : Int) == 0) = false := by rw [beq_eq_false_iff_ne]; omega
          clear hS ht ht0
          go_wp2
          have hkg := HK.out
          go_roundg (gk - 1)
          case rel => exact ⟨k + 2, by go_num, by omega, by omega, by omega, HO2, HJ2, rfl⟩
          case measure => omega
      · have HN : Hid (PrimeP n) := Lib.hid (by
          refine HP.out.2 (fun j a o b => ?_)
          refine HJ.out j a o ?_
          rcases Nat.lt_or_ge j k with h | h
          · exact h
          · have := Nat.mul_le_mul h h; omega)
        have hlei : (n : Int) < (S : Int) := by omega
        clear hS
        go_wp2
        go_ret
        exact says_yes HN.out

set_option maxRecDepth 100000 in
set_option maxHeartbeats 1000000 in
theorem common_any (f : Nat) : ∀ (a b : Nat) (w : World), b ≤ f → a ≤ 4611686018427387904 → b ≤ 4611686018427387904 →
    Calls Try.prog 105 #[.int .i64 (a : Int), .int .i64 (b : Int)] w fun e w' => e = .returned (.int .i64 ((Nat.gcd a b : Nat) : Int)) ∧ w = w' := by
  induction f with
  | zero =>
    intro a b w hb ha _
    obtain rfl : b = 0 := by omega
    have HG := Lib.hid (Nat.gcd_zero_right a)
    go_enter Try.func105, Try.ntmps105
    go_wp2_with fail
    go_ret
    exact ⟨by rw [HG.out]; rfl, rfl⟩
  | succ f ih =>
    intro a b w hb ha hb2
    by_cases h0 : b = 0
    · subst h0
      have HG := Lib.hid (Nat.gcd_zero_right a)
      go_enter Try.func105, Try.ntmps105
      go_wp2_with fail
      go_ret
      exact ⟨by rw [HG.out]; rfl, rfl⟩
    · have hlt := Nat.mod_lt a (show 0 < b by omega)
      obtain ⟨t, ht⟩ : ∃ t, a % b = t := ⟨_, rfl⟩
      rw [ht] at hlt
      have IH := Lib.hid (ih b t w (by omega) hb2 (by omega))
      have HG : Hid (Nat.gcd a b = Nat.gcd b t) := Lib.hid (by rw [Nat.gcd_comm a b, Nat.gcd_rec b a, Nat.gcd_comm, ht])
      have e1 : Value.int .i64 ((a : Int) % (b : Int)) = Value.int .i64 (t : Int) := by congr 1; rw [← ht]; simp
      have hbb : ((b : Int) == 0) = false := by rw [beq_eq_false_iff_ne]; omega
      have hb1 : (1 : Int) ≤ (b : Int) := by omega
      clear ht ih h0
      go_enter Try.func105, Try.ntmps105
      go_wp2_with fail
      refine IH.out.mono ?_
      rintro e w' ⟨rfl, rfl⟩
      go_wp2_with fail
      go_ret
      exact ⟨by rw [HG.out]; rfl, rfl⟩
end Go.Proofs.Ytjflojefpaffeaa.keyW
