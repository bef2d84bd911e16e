/- Keys: plain: primes, the inverse. -/
import Derived.Test.YtjflojefpaffeaaRows
namespace Go.Proofs.Ytjflojefpaffeaa.keysP
set_option linter.unusedVariables false

def PrimeP (n : Nat) : Prop := 2 ≤ n ∧ ∀ j, 2 ≤ j → j * j ≤ n → n % j ≠ 0
theorem prime_even {n : Nat} (h2 : 2 ≤ n) (he : n % 2 = 0) : PrimeP n ↔ n = 2 := by
  constructor
  · rintro ⟨_, h⟩
    rcases Nat.lt_or_ge n 4 with h4 | h4
    · omega
    · exact absurd he (h 2 (by omega) h4)
  · rintro rfl
    refine ⟨by omega, fun j hj hjj => ?_⟩
    have := Nat.mul_le_mul hj hj
    omega
theorem prime_odd {n : Nat} (h2 : 2 ≤ n) (ho : n % 2 = 1) : PrimeP n ↔ ∀ j, 3 ≤ j → j % 2 = 1 → j * j ≤ n → n % j ≠ 0 := by
  constructor
  · rintro ⟨_, h⟩ j hj _ hjj
    exact h j (by omega) hjj
  · intro h
    refine ⟨h2, fun j hj hjj hz => ?_⟩
    rcases Nat.mod_two_eq_zero_or_one j with hj2 | hj2
    · have hd : j ∣ n := Nat.dvd_of_mod_eq_zero hz
      have h2d : 2 ∣ n := Nat.dvd_trans (Nat.dvd_of_mod_eq_zero hj2) hd
      have := Nat.mod_eq_zero_of_dvd h2d
      omega
    · exact h j (by omega) hj2 hjj hz

/-- d is the inverse of e -/
def Inv (e m d : Nat) : Prop := d < m ∧ (e * d) % m = 1 % m
/-- the number behind which the reference stops -/
theorem first_k {e m d : Nat} (he : 1 ≤ e) (hm : 2 ≤ m) (h : Inv e m d) : ∃ k0, e * d = 1 + k0 * m ∧ k0 < e := by
  obtain ⟨h1, h2⟩ := h
  rw [Nat.mod_eq_of_lt (show 1 < m by omega)] at h2
  refine ⟨e * d / m, ?_, ?_⟩
  · have := Nat.div_add_mod (e * d) m
    rw [h2, Nat.mul_comm m] at this
    omega
  · rw [Nat.div_lt_iff_lt_mul (by omega)]
    exact Nat.mul_lt_mul_of_pos_left h1 he
theorem first_only {e m k k0 d : Nat} (hg : Nat.gcd e m = 1) (h : e * d = 1 + k0 * m) (hk : k ≤ k0) (hk0 : k0 < e) (hz : (1 + k * m) % e = 0) : k = k0 := by
  have h1 : e ∣ 1 + k * m := Nat.dvd_of_mod_eq_zero hz
  have h2 : e ∣ 1 + k0 * m := ⟨d, h.symm⟩
  have h3 : e ∣ (1 + k0 * m) - (1 + k * m) := Nat.dvd_sub h2 h1
  have h4 : (1 + k0 * m) - (1 + k * m) = (k0 - k) * m := by rw [Nat.sub_mul]; omega
  rw [h4] at h3
  have h5 : e ∣ k0 - k := Nat.Coprime.dvd_of_dvd_mul_right hg h3
  rcases Nat.eq_zero_or_pos (k0 - k) with h6 | h6
  · omega
  · have := Nat.le_of_dvd h6 h5; omega
theorem first_d {e m k0 d : Nat} (he : 1 ≤ e) (h : e * d = 1 + k0 * m) : (1 + k0 * m) / e = d := by
  rw [← h]; exact Nat.mul_div_cancel_left d he

/-- Euclid's way: r0, r1 the rests; the factors are neg-ative by turns: a of r0, b of r1 -/
structure Euc (e m r0 r1 : Nat) (s0 s1 : Int) : Prop where
  gcd : Nat.gcd r0 r1 = Nat.gcd e m
  c0 : ((e : Int) * s0 - r0) % m = 0
  c1 : ((e : Int) * s1 - r1) % m = 0
  row : (s1.natAbs) * r0 + s0.natAbs * r1 = m
  sign : (0 ≤ s1 ∧ s0 ≤ 0) ∨ (s1 ≤ 0 ∧ 0 ≤ s0)
  a0 : s0.natAbs ≤ m
  pos : 1 ≤ r0
theorem Euc.start {e m : Nat} (hm : 1 ≤ m) : Euc e m m (e % m) 0 1 where
  gcd := by rw [Nat.gcd_comm m, ← Nat.gcd_rec, Nat.gcd_comm]
  c0 := by simp
  c1 := by
    rw [Int.mul_one, Int.natCast_emod]
    have := Int.emod_add_mul_ediv (e : Int) (m : Int)
    have h : (e : Int) - (e : Int) % (m : Int) = m * ((e : Int) / m) := by omega
    rw [h]; exact Int.mul_emod_right _ _
  row := by simp
  sign := .inl ⟨by omega, by omega⟩
  a0 := by simp
  pos := by omega
theorem mod_sub {a b k m : Int} (h0 : a % m = 0) (h1 : b % m = 0) : (a - k * b) % m = 0 := by
  have d0 := Int.dvd_of_emod_eq_zero h0
  have d1 := Int.dvd_of_emod_eq_zero h1
  exact Int.emod_eq_zero_of_dvd (Int.dvd_sub d0 (Int.dvd_trans d1 (Int.dvd_mul_left k b)))
theorem Euc.step {e m r0 r1 : Nat} {s0 s1 : Int} (h : Euc e m r0 r1 s0 s1) (h1 : 1 ≤ r1) : Euc e m r1 (r0 % r1) s1 (s0 - (r0 / r1 : Nat) * s1) where
  gcd := by rw [← h.gcd, Nat.gcd_comm r1, ← Nat.gcd_rec, Nat.gcd_comm]
  c0 := h.c1
  c1 := by
    have e1 : ((e : Int) * (s0 - (r0 / r1 : Nat) * s1) - ((r0 % r1 : Nat) : Int)) = ((e : Int) * s0 - r0) - ((r0 / r1 : Nat) : Int) * ((e : Int) * s1 - r1) := by
      have := Nat.div_add_mod r0 r1
      have h2 : ((r0 : Nat) : Int) = (r1 : Int) * ((r0 / r1 : Nat) : Int) + ((r0 % r1 : Nat) : Int) := by exact_mod_cast this.symm
      rw [h2, Int.mul_sub, Int.mul_sub, ← Int.mul_assoc, ← Int.mul_assoc, Int.mul_comm (e : Int) ((r0 / r1 : Nat) : Int), Int.mul_comm (r1 : Int)]
      omega
    rw [e1]; exact mod_sub h.c0 h.c1
  row := by
    have hab : (s0 - (r0 / r1 : Nat) * s1).natAbs = s0.natAbs + (r0 / r1) * s1.natAbs := by
      obtain ⟨q, hq⟩ : ∃ q, r0 / r1 = q := ⟨_, rfl⟩
      rw [hq]
      have e2 : ((q : Int) * s1).natAbs = q * s1.natAbs := by rw [Int.natAbs_mul]; rfl
      rcases h.sign with ⟨a, b⟩ | ⟨a, b⟩
      · have : 0 ≤ (q : Int) * s1 := Int.mul_nonneg (by omega) a
        rw [← e2]; omega
      · have : (q : Int) * s1 ≤ 0 := Int.mul_nonpos_of_nonneg_of_nonpos (by omega) a
        rw [← e2]; omega
    have hr := h.row
    rw [hab]
    have hd := Nat.div_add_mod r0 r1
    obtain ⟨q, hq⟩ : ∃ q, r0 / r1 = q := ⟨_, rfl⟩
    obtain ⟨t, ht⟩ : ∃ t, r0 % r1 = t := ⟨_, rfl⟩
    rw [hq, ht] at hd
    rw [hq, ht, ← hr, ← hd, Nat.add_mul, Nat.mul_add, ← Nat.mul_assoc]
    rw [Nat.mul_comm q s1.natAbs, Nat.mul_assoc s1.natAbs q r1, Nat.mul_comm q r1, ← Nat.mul_assoc]
    omega
  sign := by
    rcases h.sign with ⟨a, b⟩ | ⟨a, b⟩
    · right
      have : 0 ≤ ((r0 / r1 : Nat) : Int) * s1 := Int.mul_nonneg (Int.natCast_nonneg _) a
      exact ⟨by omega, a⟩
    · left
      have : ((r0 / r1 : Nat) : Int) * s1 ≤ 0 := Int.mul_nonpos_of_nonneg_of_nonpos (Int.natCast_nonneg _) a
      exact ⟨by omega, a⟩
  a0 := by
    have hr := h.row
    have : s1.natAbs * 1 ≤ s1.natAbs * r0 := Nat.mul_le_mul_left _ h.pos
    omega
  pos := h1
theorem Euc.bound {e m r0 r1 : Nat} {s0 s1 : Int} (h : Euc e m r0 r1 s0 s1) : s1.natAbs ≤ m := by
  have hr := h.row
  have : s1.natAbs * 1 ≤ s1.natAbs * r0 := Nat.mul_le_mul_left _ h.pos
  omega
theorem Euc.next {e m r0 r1 : Nat} {s0 s1 : Int} (h : Euc e m r0 r1 s0 s1) (h1 : 1 ≤ r1) : (((r0 / r1 : Nat) : Int) * s1).natAbs ≤ m := by
  have h2 := (h.step h1).bound
  obtain ⟨q, hq⟩ : ∃ q, r0 / r1 = q := ⟨_, rfl⟩
  rw [hq] at h2 ⊢
  rcases h.sign with ⟨a, b⟩ | ⟨a, b⟩
  · have : 0 ≤ (q : Int) * s1 := Int.mul_nonneg (Int.natCast_nonneg _) a
    omega
  · have : (q : Int) * s1 ≤ 0 := Int.mul_nonpos_of_nonneg_of_nonpos (Int.natCast_nonneg _) a
    omega
theorem Euc.no {e m r0 : Nat} {s0 s1 : Int} (h : Euc e m r0 0 s0 s1) : Nat.gcd e m = r0 := by rw [← h.gcd]; simp
theorem Euc.yes {e m : Nat} {s0 s1 : Int} (h : Euc e m 1 0 s0 s1) (hm : 2 ≤ m) : Inv e m (s0 % (m : Int)).toNat := by
  have hm0 : (0 : Int) < (m : Int) := by omega
  have h1 := Int.emod_nonneg s0 (show (m : Int) ≠ 0 by omega)
  have h2 := Int.emod_lt_of_pos s0 hm0
  obtain ⟨d, hd⟩ : ∃ d : Nat, s0 % (m : Int) = d := ⟨(s0 % (m : Int)).toNat, by omega⟩
  rw [hd, Int.toNat_natCast]
  refine ⟨by omega, ?_⟩
  have hc := h.c0
  have e1 : ((e : Int) * s0) % m = 1 % m := by
    have := Int.emod_emod_of_dvd ((e : Int) * s0 - (1 : Nat)) (Int.dvd_refl (m : Int))
    have h3 := Int.dvd_of_emod_eq_zero hc
    exact Int.emod_eq_emod_iff_emod_sub_eq_zero.2 (by simpa using hc)
  rw [Int.mul_emod, hd] at e1
  have e2 : ((e : Int) * (d : Int)) % m = 1 % m := by
    rw [Int.mul_emod, show (d : Int) % (m : Int) = d from Int.emod_eq_of_lt (by omega) (by omega)]
    exact e1
  exact_mod_cast e2
end Go.Proofs.Ytjflojefpaffeaa.keysP
