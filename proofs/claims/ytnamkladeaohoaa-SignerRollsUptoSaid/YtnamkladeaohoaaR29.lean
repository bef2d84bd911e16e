/- Keys: plain: primes, the inverse. Primes and the greatest common divisor: walks. seal.inverse: walk. -/
import Derived.Test.YtnamkladeaohoaaRows
import Derived.Test.YtnamkladeaohoaaK1
namespace Go.Proofs.Ytnamkladeaohoaa.keysP
set_option linter.unusedVariables false

def PrimeP (n : Nat) : Prop := 2 ≤ n ∧ ∀ j, 2 ≤ j → j * j ≤ n → n % j ≠ 0
theorem prime_even {n : Nat} (h2 : 2 ≤ n) (he : n % 2 = 0) : PrimeP n ↔ n = 2 := by
  constructor
  · rintro ⟨_, h⟩
    rcases Nat.lt_or_ge n 4 with h4 | h4
    · omega
    · exact absurd he (h 2 (by omega) h4)
  · rintro rfl
    refine ⟨by omega, fun j hj hjj => ?_⟩
    have := Nat.mul_le_mul hj hj
    omega
theorem prime_odd {n : Nat} (h2 : 2 ≤ n) (ho : n % 2 = 1) : PrimeP n ↔ ∀ j, 3 ≤ j → j % 2 = 1 → j * j ≤ n → n % j ≠ 0 := by
  constructor
  · rintro ⟨_, h⟩ j hj _ hjj
    exact h j (by omega) hjj
  · intro h
    refine ⟨h2, fun j hj hjj hz => ?_⟩
    rcases Nat.mod_two_eq_zero_or_one j with hj2 | hj2
    · have hd : j ∣ n := Nat.dvd_of_mod_eq_zero hz
      have h2d : 2 ∣ n := Nat.dvd_trans (Nat.dvd_of_mod_eq_zero hj2) hd
      have := Nat.mod_eq_zero_of_dvd h2d
      omega
    · exact h j (by omega) hj2 hjj hz

/-- d is the inverse of e -/
def Inv (e m d : Nat) : Prop := d < m ∧ (e * d) % m = 1 % m
/-- the number behind which the reference stops -/
theorem first_k {e m d : Nat} (he : 1 ≤ e) (hm : 2 ≤ m) (h : Inv e m d) : ∃ k0, e * d = 1 + k0 * m ∧ k0 < e := by
  obtain ⟨h1, h2⟩ := h
  rw [Nat.mod_eq_of_lt (show 1 < m by omega)] at h2
  refine ⟨e * d / m, ?_, ?_⟩
  · have := Nat.div_add_mod (e * d) m
    rw [h2, Nat.mul_comm m] at this
    omega
  · rw [Nat.div_lt_iff_lt_mul (by omega)]
    exact Nat.mul_lt_mul_of_pos_left h1 he
theorem first_only {e m k k0 d : Nat} (hg : Nat.gcd e m = 1) (h : e * d = 1 + k0 * m) (hk : k ≤ k0) (hk0 : k0 < e) (hz : (1 + k * m) % e = 0) : k = k0 := by
  have h1 : e ∣ 1 + k * m := Nat.dvd_of_mod_eq_zero hz
  have h2 : e ∣ 1 + k0 * m := ⟨d, h.symm⟩
  have h3 : e ∣ (1 + k0 * m) - (1 + k * m) := Nat.dvd_sub h2 h1
  have h4 : (1 + k0 * m) - (1 + k * m) = (k0 - k) * m := by rw [Nat.sub_mul]; omega
  rw [h4] at h3
  have h5 : e ∣ k0 - k := Nat.Coprime.dvd_of_dvd_mul_right hg h3
  rcases Nat.eq_zero_or_pos (k0 - k) with h6 | h6
  · omega
  · have := Nat.le_of_dvd h6 h5; omega
theorem first_d {e m k0 d : Nat} (he : 1 ≤ e) (h : e * d = 1 + k0 * m) : (1 + k0 * m) / e = d := by
  rw [← h]; exact Nat.mul_div_cancel_left d he

/-- Euclid's way: r0, r1 the rests; the factors are neg-ative by turns: a of r0, b of r1 -/
structure Euc (e m r0 r1 : Nat) (s0 s1 : Int) : Prop where
  gcd : Nat.gcd r0 r1 = Nat.gcd e m
  c0 : ((e : Int) * s0 - r0) % m = 0
  c1 : ((e : Int) * s1 - r1) % m = 0
  row : (s1.natAbs) * r0 + s0.natAbs * r1 = m
  sign : (0 ≤ s1 ∧ s0 ≤ 0) ∨ (s1 ≤ 0 ∧ 0 ≤ s0)
  a0 : s0.natAbs ≤ m
  pos : 1 ≤ r0
theorem Euc.start {e m : Nat} (hm : 1 ≤ m) : Euc e m m (e % m) 0 1 where
  gcd := by rw [Nat.gcd_comm m, ← Nat.gcd_rec, Nat.gcd_comm]
  c0 := by simp
  c1 := by
    rw [Int.mul_one, Int.natCast_emod]
    have := Int.emod_add_mul_ediv (e : Int) (m : Int)
    have h : (e : Int) - (e : Int) % (m : Int) = m * ((e : Int) / m) := by omega
    rw [h]; exact Int.mul_emod_right _ _
  row := by simp
  sign := .inl ⟨by omega, by omega⟩
  a0 := by simp
  pos := by omega
theorem mod_sub {a b k m : Int} (h0 : a % m = 0) (h1 : b % m = 0) : (a - k * b) % m = 0 := by
  have d0 := Int.dvd_of_emod_eq_zero h0
  have d1 := Int.dvd_of_emod_eq_zero h1
  exact Int.emod_eq_zero_of_dvd (Int.dvd_sub d0 (Int.dvd_trans d1 (Int.dvd_mul_left k b)))
theorem Euc.step {e m r0 r1 : Nat} {s0 s1 : Int} (h : Euc e m r0 r1 s0 s1) (h1 : 1 ≤ r1) : Euc e m r1 (r0 % r1) s1 (s0 - (r0 / r1 : Nat) * s1) where
  gcd := by rw [← h.gcd, Nat.gcd_comm r1, ← Nat.gcd_rec, Nat.gcd_comm]
  c0 := h.c1
  c1 := by
    have e1 : ((e : Int) * (s0 - (r0 / r1 : Nat) * s1) - ((r0 % r1 : Nat) : Int)) = ((e : Int) * s0 - r0) - ((r0 / r1 : Nat) : Int) * ((e : Int) * s1 - r1) := by
      have := Nat.div_add_mod r0 r1
      have h2 : ((r0 : Nat) : Int) = (r1 : Int) * ((r0 / r1 : Nat) : Int) + ((r0 % r1 : Nat) : Int) := by exact_mod_cast this.symm
      rw [h2, Int.mul_sub, Int.mul_sub, ← Int.mul_assoc, ← Int.mul_assoc, Int.mul_comm (e : Int) ((r0 / r1 : Nat) : Int), Int.mul_comm (r1 : Int)]
      omega
    rw [e1]; exact mod_sub h.c0 h.c1
  row := by
    have hab : (s0 - (r0 / r1 : Nat) * s1).natAbs = s0.natAbs + (r0 / r1) * s1.natAbs := by
      obtain ⟨q, hq⟩ : ∃ q, r0 / r1 = q := ⟨_, rfl⟩
      rw [hq]
      have e2 : ((q : Int) * s1).natAbs = q * s1.natAbs := by rw [Int.natAbs_mul]; rfl
      rcases h.sign with ⟨a, b⟩ | ⟨a, b⟩
      · have : 0 ≤ (q : Int) * s1 := Int.mul_nonneg (by omega) a
        rw [← e2]; omega
      · have : (q : Int) * s1 ≤ 0 := Int.mul_nonpos_of_nonneg_of_nonpos (by omega) a
        rw [← e2]; omega
    have hr := h.row
    rw [hab]
    have hd := Nat.div_add_mod r0 r1
    obtain ⟨q, hq⟩ : ∃ q, r0 / r1 = q := ⟨_, rfl⟩
    obtain ⟨t, ht⟩ : ∃ t, r0 % r1 = t := ⟨_, rfl⟩
    rw [hq, ht] at hd
    rw [hq, ht, ← hr, ← hd, Nat.add_mul, Nat.mul_add, ← Nat.mul_assoc]
    rw [Nat.mul_comm q s1.natAbs, Nat.mul_assoc s1.natAbs q r1, Nat.mul_comm q r1, ← Nat.mul_assoc]
    omega
  sign := by
    rcases h.sign with ⟨a, b⟩ | ⟨a, b⟩
    · right
      have : 0 ≤ ((r0 / r1 : Nat) : Int) * s1 := Int.mul_nonneg (Int.natCast_nonneg _) a
      exact ⟨by omega, a⟩
    · left
      have : ((r0 / r1 : Nat) : Int) * s1 ≤ 0 := Int.mul_nonpos_of_nonneg_of_nonpos (Int.natCast_nonneg _) a
      exact ⟨by omega, a⟩
  a0 := by
    have hr := h.row
    have : s1.natAbs * 1 ≤ s1.natAbs * r0 := Nat.mul_le_mul_left _ h.pos
    omega
  pos := h1
theorem Euc.bound {e m r0 r1 : Nat} {s0 s1 : Int} (h : Euc e m r0 r1 s0 s1) : s1.natAbs ≤ m := by
  have hr := h.row
  have : s1.natAbs * 1 ≤ s1.natAbs * r0 := Nat.mul_le_mul_left _ h.pos
  omega
theorem Euc.next {e m r0 r1 : Nat} {s0 s1 : Int} (h : Euc e m r0 r1 s0 s1) (h1 : 1 ≤ r1) : (((r0 / r1 : Nat) : Int) * s1).natAbs ≤ m := by
  have h2 := (h.step h1).bound
  obtain ⟨q, hq⟩ : ∃ q, r0 / r1 = q := ⟨_, rfl⟩
  rw [hq] at h2 ⊢
  rcases h.sign with ⟨a, b⟩ | ⟨a, b⟩
  · have : 0 ≤ (q : Int) * s1 := Int.mul_nonneg (Int.natCast_nonneg _) a
    omega
  · have : (q : Int) * s1 ≤ 0 := Int.mul_nonpos_of_nonneg_of_nonpos (Int.natCast_nonneg _) a
    omega
theorem Euc.no {e m r0 : Nat} {s0 s1 : Int} (h : Euc e m r0 0 s0 s1) : Nat.gcd e m = r0 := by rw [← h.gcd]; simp
theorem Euc.yes {e m : Nat} {s0 s1 : Int} (h : Euc e m 1 0 s0 s1) (hm : 2 ≤ m) : Inv e m (s0 % (m : Int)).toNat := by
  have hm0 : (0 : Int) < (m : Int) := by omega
  have h1 := Int.emod_nonneg s0 (show (m : Int) ≠ 0 by omega)
  have h2 := Int.emod_lt_of_pos s0 hm0
  obtain ⟨d, hd⟩ : ∃ d : Nat, s0 % (m : Int) = d := ⟨(s0 % (m : Int)).toNat, by omega⟩
  rw [hd, Int.toNat_natCast]
  refine ⟨by omega, ?_⟩
  have hc := h.c0
  have e1 : ((e : Int) * s0) % m = 1 % m := by
    have := Int.emod_emod_of_dvd ((e : Int) * s0 - (1 : Nat)) (Int.dvd_refl (m : Int))
    have h3 := Int.dvd_of_emod_eq_zero hc
    exact Int.emod_eq_emod_iff_emod_sub_eq_zero.2 (by simpa using hc)
  rw [Int.mul_emod, hd] at e1
  have e2 : ((e : Int) * (d : Int)) % m = 1 % m := by
    rw [Int.mul_emod, show (d : Int) % (m : Int) = d from Int.emod_eq_of_lt (by omega) (by omega)]
    exact e1
  exact_mod_cast e2
end Go.Proofs.Ytnamkladeaohoaa.keysP
namespace Go.Proofs.Ytnamkladeaohoaa.keyW
open Go.RowKit Go.Proofs.Ytnamkladeaohoaa.kit Go.Proofs.Ytnamkladeaohoaa.keysP
set_option linter.unusedVariables false

/-- what is said of a number is whether it is a prime -/
def Says (n : Nat) (w : World) (e : Ending) (w' : World) : Prop := ∃ b : Bool, e = .returned (.bool b) ∧ (b = true ↔ PrimeP n) ∧ w = w'
theorem says_yes {n : Nat} {w : World} (h : PrimeP n) : Says n w (.returned (.bool true)) w := ⟨true, rfl, ⟨fun _ => h, fun _ => rfl⟩, rfl⟩
theorem says_no {n : Nat} {w : World} (h : ¬ PrimeP n) : Says n w (.returned (.bool false)) w := ⟨false, rfl, ⟨fun h' => (by cases h'), fun h' => absurd h' h⟩, rfl⟩
theorem sq_le {k n : Nat} (h : k * k ≤ n) (hn : n ≤ 2147483648) : k ≤ 46341 := by
  rcases Nat.lt_or_ge k 46342 with h1 | h1
  · omega
  · have := Nat.mul_le_mul h1 h1; omega

set_option maxRecDepth 100000 in
set_option maxHeartbeats 1000000 in
theorem nprime_any (n : Nat) (w : World) (h2 : 2 ≤ n) (hn : n ≤ 2147483648) :
    Calls Try.prog 19 #[.int .i64 (n : Int)] w (Says n w) := by
  go_enter Try.func19, Try.ntmps19
  go_wp2
  go_loopg [3] (46343) (fun gas kv wr => ∃ (k : Nat), kv = .int .i64 k ∧ 2 ≤ k ∧ k ≤ 46342 ∧ k + gas = 46345 ∧ Hid (∀ j, 2 ≤ j → j < k → n % j ≠ 0) ∧ w = wr)
  case atStart => exact ⟨2, rfl, by omega, by omega, by omega, Lib.hid (by omega), rfl⟩
  case round =>
    obtain ⟨k, rfl, hk2, hk, hkg, HJ, rfl⟩ := hrel
    have HK := Lib.hid hkg; clear hkg
    obtain ⟨S, hS⟩ : ∃ S, k * k = S := ⟨_, rfl⟩
    have hSb : S ≤ 46342 * 46342 := by rw [← hS]; exact Nat.mul_le_mul hk hk
    have e1 : Value.int .i64 (wrap64 ((k : Int) * (k : Int))) = Value.int .i64 (S : Int) := by
      have e : (k : Int) * (k : Int) = (S : Int) := by rw [← hS]; simp
      rw [e, IntWalk.wrap64_in _ (by omega)]
    have hk2i : (2 : Int) ≤ (k : Int) := by omega
    by_cases hle : S ≤ n
    · have hk1 := sq_le (by rw [hS]; exact hle) hn
      obtain ⟨t, ht⟩ : ∃ t, n % k = t := ⟨_, rfl⟩
      have e2 : Value.int .i64 ((n : Int) % (k : Int)) = Value.int .i64 (t : Int) := by congr 1; rw [← ht]; simp
      have hlei : (S : Int) ≤ (n : Int) := by omega
      by_cases ht0 : t = 0
      · have HN : Hid (¬ PrimeP n) := Lib.hid (fun h => h.2 k hk2 (by rw [hS]; exact hle) (by rw [ht]; exact ht0))
        have hb : ((t : Int) == 0) = true := by rw [beq_iff_eq]; omega
        clear hS ht ht0
        go_wp2
        go_ret
        exact says_no HN.out
      · have HJ2 : Hid (∀ j, 2 ≤ j → j < k + 1 → n % j ≠ 0) := Lib.hid (by
          intro j a b
          rcases Nat.lt_or_ge j k with h | h
          · exact HJ.out j a h
          · have : j = k := by omega
            subst this; rw [ht]; exact ht0)
        have hb : ((t : Int) == 0) = false := by rw [beq_eq_false_iff_ne]; omega
        clear hS ht ht0
        go_wp2
        have hkg := HK.out
        go_roundg (gk - 1)
        case rel => exact ⟨k + 1, by go_num, by omega, by omega, by omega, HJ2, rfl⟩
        case measure => omega
    · have HN : Hid (PrimeP n) := Lib.hid (by
        refine ⟨h2, fun j a b => ?_⟩
        refine HJ.out j a ?_
        rcases Nat.lt_or_ge j k with h | h
        · exact h
        · have := Nat.mul_le_mul h h; omega)
      have hlei : (n : Int) < (S : Int) := by omega
      clear hS
      go_wp2
      go_ret
      exact says_yes HN.out

end Go.Proofs.Ytnamkladeaohoaa.keyW
namespace Go.Proofs.Ytnamkladeaohoaa.inverse
open Go.RowKit Go.Proofs.Ytnamkladeaohoaa.kit Go.Proofs.Ytnamkladeaohoaa.keysP Go.Proofs.Ytnamkladeaohoaa.keyW
set_option linter.unusedVariables false

def Two (w : World) (g : Nat) (a b : Int) : Prop := w.heap[g]? = some (.cells #[.int .i64 a, .int .i64 b] 57 (0, 0))
theorem Two.c {w : World} {g : Nat} {a b : Int} (h : Two w g a b) : w.cell? ⟨g, 0, none⟩ = some (.int .i64 a) ∧ w.cell? ⟨g, 1, none⟩ = some (.int .i64 b) ∧ w.frozen? ⟨g, 0, none⟩ = false ∧ w.frozen? ⟨g, 1, none⟩ = false :=
  ⟨by rw [Lib.cell_of_heap h]; rfl, by rw [Lib.cell_of_heap h]; rfl, Lib.frozen_of_heap h 0, Lib.frozen_of_heap h 1⟩

theorem heap_set {w : World} {b : Nat} {cs : Array Value} {t : TypeId} (h : w.heap[b]? = some (.cells cs t (0, 0))) (i : Nat) (u : Value) : (w.setCell ⟨b, i, none⟩ u).heap[b]? = some (.cells (cs.setIfInBounds i u) t (0, 0)) := by
  simp [World.setCell, Array.getElem?_modify, h]
theorem Two.set {w : World} {g : Nat} {a b : Int} (h : Two w g a b) (c d : Int) : Two ((w.setCell ⟨g, 0, none⟩ (.int .i64 c)).setCell ⟨g, 1, none⟩ (.int .i64 d)) g c d := heap_set (heap_set h 0 _) 1 _
theorem Two.far {w : World} {g g' : Nat} {a b : Int} (h : Two w g a b) (hne : g ≠ g') (i : Nat) (u : Value) : Two (w.setCell ⟨g', i, none⟩ u) g a b := (Below.heap_setCell w ⟨g', i, none⟩ u g hne).trans h

/-- what is said of an inverse -/
def SaysI (e m : Nat) (w : World) (en : Ending) (w' : World) : Prop := Below w.heap.size w w' ∧ ((Nat.gcd e m ≠ 1 ∧ en = .returned (.int .i64 0)) ∨ ∃ d : Nat, Nat.gcd e m = 1 ∧ Inv e m d ∧ en = .returned (.int .i64 (d : Int)))

set_option maxRecDepth 100000 in
set_option maxHeartbeats 2000000 in
theorem inverse_any (e m : Nat) (w : World) (he : e ≤ 2147483648) (hm2 : 2 ≤ m) (hm : m ≤ 2147483648) :
    Calls Try.prog 20 #[.int .i64 (e : Int), .int .i64 (m : Int)] w (SaysI e m w) := by
  have hm1 : (1 : Int) ≤ (m : Int) := by omega
  go_enter Try.func20, Try.ntmps20
  go_wp2
  obtain ⟨r, hr⟩ : ∃ r, e % m = r := ⟨_, rfl⟩
  have e1 : ((e : Int) % (m : Int)) = (r : Int) := by rw [← hr]; simp
  have HE := Lib.hid (Euc.start (e := e) (m := m) (by omega))
  have hrm : r < m := by rw [← hr]; exact Nat.mod_lt e (by omega)
  rw [hr] at HE
  clear hr
  obtain ⟨w2, hw2⟩ : ∃ w2, (w.alloc (.cells #[.int .i64 (m : Int), .int .i64 ((e : Int) % (m : Int))] 57)).alloc (.cells #[.int .i64 0, .int .i64 1] 57) = w2 := ⟨_, rfl⟩
  obtain ⟨g, hg⟩ : ∃ g, w.heap.size = g := ⟨_, rfl⟩
  have hR0 : Two w2 g (m : Int) (r : Int) := by
    rw [← hw2, ← hg]
    have h1 : ((w.alloc (.cells #[.int .i64 (m : Int), .int .i64 ((e : Int) % (m : Int))] 57)).alloc (.cells #[.int .i64 0, .int .i64 1] 57)).heap[w.heap.size]? = (w.alloc (.cells #[.int .i64 (m : Int), .int .i64 ((e : Int) % (m : Int))] 57)).heap[w.heap.size]? := Lib.alloc_old _ _ _ (by rw [World.size_alloc]; omega)
    have h2 := h1.trans (heap_alloc_new w _)
    unfold Two
    rw [h2, e1]
  have hS0 : Two w2 (g + 1) 0 1 := by
    rw [← hw2, ← hg]
    have h1 := heap_alloc_new (w.alloc (.cells #[.int .i64 (m : Int), .int .i64 ((e : Int) % (m : Int))] 57)) (.cells #[.int .i64 0, .int .i64 1] 57)
    rw [World.size_alloc] at h1
    exact h1
  have hB0 : Below w.heap.size w w2 := by
    rw [← hw2]
    exact ((Below.refl w.heap.size w).alloc (Nat.le_refl _) _).alloc (by rw [World.size_alloc]; omega) _
  rw [hw2]
  have HG := Lib.hid hg
  rw [hg] at hB0
  rw [hg]
  clear hw2 hg e1
  go_loopg [7] (m + 2) (fun gas _ wr => ∃ (r0 r1 : Nat) (s0 s1 : Int), Hid (Euc e m r0 r1 s0 s1) ∧ r0 ≤ 2147483648 ∧ r1 ≤ 2147483648 ∧ r1 + 1 < gas + 1 ∧ Two wr g (r0 : Int) (r1 : Int) ∧ Two wr (g + 1) s0 s1 ∧ Below g w wr)
  case atStart => exact ⟨m, r, 0, 1, HE, by omega, by omega, by omega, hR0, hS0, hB0⟩
  case round =>
    clear hR0 hS0 hB0
    obtain ⟨r0, r1, s0, s1, HE, hr0, hr1, hgas, hR, hS, hB⟩ := hrel
    obtain ⟨c0, c1, f0, f1⟩ := hR.c
    obtain ⟨d0, d1, k0, k1⟩ := hS.c
    by_cases hz : r1 = 0
    · subst hz
      have hno := HE.out.no
      have hb : ((((0 : Nat) : Int)) != 0) = false := rfl
      by_cases h1 : r0 = 1
      · subst h1
        have hI := HE.out.yes hm2
        obtain ⟨d, hd⟩ : ∃ d : Nat, s0 % (m : Int) = d := ⟨(s0 % (m : Int)).toNat, by have := Int.emod_nonneg s0 (show (m : Int) ≠ 0 by omega); omega⟩
        rw [hd, Int.toNat_natCast] at hI
        have HF : Hid (Nat.gcd e m = 1 ∧ Inv e m d) := Lib.hid ⟨hno, hI⟩
        obtain ⟨T, hT⟩ : ∃ T, s0.tmod (m : Int) = T := ⟨_, rfl⟩
        have hT1 : T < (m : Int) := by rw [← hT]; exact Int.tmod_lt_of_pos _ (by omega)
        have hT2 : -(m : Int) < T := by
          have := Int.tmod_lt_of_pos (-s0) (show (0 : Int) < (m : Int) by omega)
          rw [Int.neg_tmod, hT] at this; omega
        have hTd : (T + (m : Int)) % (m : Int) = (d : Int) := by
          rw [← hd, ← hT, Int.add_emod_right, Int.tmod_def, Int.sub_mul_emod_self_left]
        have HFIN : Hid ((wrap64 (s0.tmod (m : Int) + (m : Int))).tmod (m : Int) = (d : Int)) := Lib.hid (by
          rw [hT, IntWalk.wrap64_in _ (by omega), Int.tmod_eq_emod_of_nonneg (by omega), hTd])
        have ha0 := HE.out.a0
        have y3 : s0 ≤ 2147483648 := by omega
        have y4 : -2147483648 ≤ s0 := by omega
        have hb1 : ((((1 : Nat) : Int)) != 1) = false := rfl
        have HT := Lib.hid hT
        clear hno hI hd hT hTd
        go_wp2
        go_ret
        refine ⟨by rw [HG.out]; exact hB, .inr ⟨d, HF.out.1, HF.out.2, ?_⟩⟩
        rw [← HFIN.out]; rfl
      · have HF : Hid (Nat.gcd e m ≠ 1) := Lib.hid (by rw [hno]; exact h1)
        have hb1 : ((r0 : Int) != 1) = true := by rw [bne_iff_ne]; omega
        clear hno h1
        go_wp2
        go_ret
        refine ⟨by rw [HG.out]; exact hB, .inl ⟨HF.out, rfl⟩⟩
    · have hst := HE.out.step (by omega)
      have hbd := HE.out.bound
      have hnx := HE.out.next (by omega)
      have ha0 := HE.out.a0
      have hbd2 := hst.bound
      obtain ⟨q, hq⟩ : ∃ q, r0 / r1 = q := ⟨_, rfl⟩
      obtain ⟨t, ht⟩ : ∃ t, r0 % r1 = t := ⟨_, rfl⟩
      have htl := Nat.mod_lt r0 (show 0 < r1 by omega)
      have hdm := Nat.div_add_mod r0 r1
      rw [hq, ht] at hdm
      rw [ht] at htl
      rw [hq, ht] at hst
      rw [hq] at hnx hbd2
      obtain ⟨P, hP⟩ : ∃ P, q * r1 = P := ⟨_, rfl⟩
      rw [Nat.mul_comm, hP] at hdm
      obtain ⟨Z, hZ⟩ : ∃ Z, (q : Int) * s1 = Z := ⟨_, rfl⟩
      rw [hZ] at hst hnx hbd2
      have hql : q ≤ r0 := by rw [← hq]; exact Nat.div_le_self _ _
      have x1 : Value.int .i64 (wrap64 ((r0 : Int) / (r1 : Int))) = Value.int .i64 (q : Int) := by
        have h5 : (r0 : Int) / (r1 : Int) = (q : Int) := by rw [← hq]; simp
        rw [h5, IntWalk.wrap64_in _ (by omega)]
      have x2 : Value.int .i64 (wrap64 ((q : Int) * (r1 : Int))) = Value.int .i64 (P : Int) := by
        have h5 : (q : Int) * (r1 : Int) = (P : Int) := by rw [← hP]; simp
        rw [h5, IntWalk.wrap64_in _ (by omega)]
      have x3 : Value.int .i64 ((r0 : Int) - (P : Int)) = Value.int .i64 (t : Int) := by congr 1; omega
      have x4 : Value.int .i64 (wrap64 ((q : Int) * s1)) = Value.int .i64 Z := by rw [hZ, IntWalk.wrap64_in _ (by omega)]
      have HST := Lib.hid hst
      have hb : ((r1 : Int) != 0) = true := by rw [bne_iff_ne]; omega
      have hr1i : (1 : Int) ≤ (r1 : Int) := by omega
      have y1 : s1 ≤ 2147483648 := by omega
      have y2 : -2147483648 ≤ s1 := by omega
      have y3 : s0 ≤ 2147483648 := by omega
      have y4 : -2147483648 ≤ s0 := by omega
      have y5 : Z ≤ 2147483648 := by omega
      have y6 : -2147483648 ≤ Z := by omega
      clear hst hbd hnx ha0 hbd2 hq ht hP hZ hz
      have HR2 := Lib.hid (((hR.set (r1 : Int) (t : Int)).far (show g ≠ g + 1 by omega) 0 (.int .i64 s1)).far (show g ≠ g + 1 by omega) 1 (.int .i64 (s0 - Z)))
      have HS2 := Lib.hid (((hS.far (show g + 1 ≠ g by omega) 0 (.int .i64 (r1 : Int))).far (show g + 1 ≠ g by omega) 1 (.int .i64 (t : Int))).set s1 (s0 - Z))
      have HB2 := Lib.hid ((((hB.setCell (p := ⟨g, 0, none⟩) (Nat.le_refl _) (.int .i64 (r1 : Int))).setCell (p := ⟨g, 1, none⟩) (Nat.le_refl _) (.int .i64 (t : Int))).setCell (p := ⟨g + 1, 0, none⟩) (Nat.le_succ _) (.int .i64 s1)).setCell (p := ⟨g + 1, 1, none⟩) (Nat.le_succ _) (.int .i64 (s0 - Z)))
      go_wp2
      go_roundg (gk - 1)
      case rel => exact ⟨r1, _, s1, _, HST, by omega, by omega, by omega, HR2.out, HS2.out, HB2.out⟩
      case measure => omega
end Go.Proofs.Ytnamkladeaohoaa.inverse
