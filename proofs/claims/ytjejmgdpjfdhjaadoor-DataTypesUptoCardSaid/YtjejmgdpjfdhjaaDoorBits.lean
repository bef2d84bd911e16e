/- Bits: plain lists of noughts and ones; base 2^n. -/
import Derived.Test.YtjejmgdpjfdhjaaDoorKit
namespace Go.Proofs.YtjejmgdpjfdhjaaDoor.bits

/-- the n bits of v, the highest first -/
def tob (v : Nat) : Nat → List Nat
  | 0 => []
  | n + 1 => (v / 2 ^ n % 2) :: tob v n
/-- the number of bits, the highest first -/
def ofb (l : List Nat) : Nat := l.foldl (fun a b => 2 * a + b) 0
def bitsL (d : List UInt8) : List Nat := d.flatMap (fun c => tob c.toNat 8)
theorem tob_length (v n : Nat) : (tob v n).length = n := by
  induction n with
  | zero => rfl
  | succ n ih => simp [tob, ih]
theorem foldl_add (l : List Nat) (a : Nat) : l.foldl (fun a b => 2 * a + b) a = a * 2 ^ l.length + l.foldl (fun a b => 2 * a + b) 0 := by
  induction l generalizing a with
  | nil => simp
  | cons b r ih =>
    simp only [List.foldl_cons, List.length_cons]
    rw [ih, ih (2 * 0 + b), Nat.pow_succ]
    have : (2 * a + b) * 2 ^ r.length = a * (2 ^ r.length * 2) + (2 * 0 + b) * 2 ^ r.length := by
      rw [Nat.add_mul, Nat.mul_comm 2 a, Nat.mul_assoc, Nat.mul_comm 2 (2 ^ r.length)]; simp
    omega
theorem ofb_cons (b : Nat) (r : List Nat) : ofb (b :: r) = b * 2 ^ r.length + ofb r := by
  unfold ofb; rw [List.foldl_cons, foldl_add]; simp
theorem ofb_tob (v n : Nat) : ofb (tob v n) = v % 2 ^ n := by
  induction n with
  | zero => simp [tob, ofb, Nat.mod_one]
  | succ n ih =>
    rw [tob, ofb_cons, tob_length, ih, Nat.pow_succ]
    have := Nat.mod_mul (x := v) (a := 2 ^ n) (b := 2)
    rw [this, Nat.mul_comm]; omega
theorem tob_mod (v n m : Nat) (h : n ≤ m) : tob (v % 2 ^ m) n = tob v n := by
  induction n with
  | zero => rfl
  | succ n ih =>
    rw [tob, tob, ih (by omega)]
    congr 1
    obtain ⟨d, rfl⟩ : ∃ d, m = n + 1 + d := ⟨m - (n + 1), by omega⟩
    rw [show n + 1 + d = n + (1 + d) by omega, Nat.pow_add, Nat.mod_mul_right_div_self, Nat.pow_add, Nat.pow_one, Nat.mod_mul_right_mod]
theorem tob_append (v w n m : Nat) (hw : w < 2 ^ m) : tob (v * 2 ^ m + w) (n + m) = tob v n ++ tob w m := by
  induction n with
  | zero =>
    rw [Nat.zero_add, tob, List.nil_append]
    rw [← tob_mod (v * 2 ^ m + w) m m (Nat.le_refl _), Nat.mul_comm, Nat.mul_add_mod, Nat.mod_eq_of_lt hw]
  | succ n ih =>
    rw [show n + 1 + m = (n + m) + 1 by omega, tob, ih, tob, List.cons_append]
    congr 1
    rw [Nat.add_comm n m, Nat.pow_add, ← Nat.div_div_eq_div_mul, Nat.mul_comm v, Nat.mul_add_div (Nat.two_pow_pos m), Nat.div_eq_of_lt hw, Nat.add_zero]

/-- n bits a letter, the last filled up with noughts -/
def encF (n : Nat) (al : List UInt8) : Nat → List Nat → List UInt8
  | 0, _ => []
  | f + 1, l => if l = [] then [] else al.getD (ofb ((l ++ List.replicate n 0).take n)) 0 :: encF n al f (l.drop n)
def enc (n : Nat) (al : List UInt8) (l : List Nat) : List UInt8 := encF n al l.length l
theorem encF_fuel (n : Nat) (al : List UInt8) (hn : 1 ≤ n) : ∀ (f g : Nat) (l : List Nat), l.length ≤ f → l.length ≤ g → encF n al f l = encF n al g l
  | 0, 0, _, _, _ => rfl
  | 0, g + 1, l, h, _ => by
    have : l = [] := List.eq_nil_of_length_eq_zero (by omega)
    subst this; simp [encF]
  | f + 1, 0, l, _, h => by
    have : l = [] := List.eq_nil_of_length_eq_zero (by omega)
    subst this; simp [encF]
  | f + 1, g + 1, l, h1, h2 => by
    simp only [encF]
    by_cases hl : l = []
    · simp [hl]
    · have hp : 0 < l.length := List.length_pos_iff.2 hl
      rw [if_neg hl, if_neg hl, encF_fuel n al hn f g (l.drop n) (by rw [List.length_drop]; omega) (by rw [List.length_drop]; omega)]
theorem enc_nil (n : Nat) (al : List UInt8) : enc n al [] = [] := rfl
theorem enc_step {n : Nat} (al : List UInt8) {l : List Nat} (hn : 1 ≤ n) (hl : l ≠ []) : enc n al l = al.getD (ofb ((l ++ List.replicate n 0).take n)) 0 :: enc n al (l.drop n) := by
  have hp : 0 < l.length := List.length_pos_iff.2 hl
  unfold enc
  obtain ⟨f, hf⟩ : ∃ f, l.length = f + 1 := ⟨l.length - 1, by omega⟩
  rw [hf, encF, if_neg hl, encF_fuel n al hn f (l.drop n).length (l.drop n) (by rw [List.length_drop]; omega) (Nat.le_refl _)]
theorem enc_full {n : Nat} (al : List UInt8) (l t : List Nat) (hn : 1 ≤ n) (hl : l.length = n) : enc n al (l ++ t) = al.getD (ofb l) 0 :: enc n al t := by
  have hne : l ++ t ≠ [] := by
    intro h
    have := congrArg List.length h
    rw [List.length_append, List.length_nil] at this; omega
  rw [enc_step al hn hne, List.append_assoc, List.take_left' hl, List.drop_left' hl]
theorem ofb_zero (k : Nat) : ofb (List.replicate k 0) = 0 := by
  induction k with
  | zero => rfl
  | succ k ih => rw [List.replicate_succ, ofb_cons, ih]; simp
theorem ofb_append (x y : List Nat) : ofb (x ++ y) = ofb x * 2 ^ y.length + ofb y := by
  unfold ofb; rw [List.foldl_append, foldl_add]
theorem enc_last {n : Nat} (al : List UInt8) (l : List Nat) (hl : 0 < l.length) (hn : l.length ≤ n) : enc n al l = [al.getD (ofb l * 2 ^ (n - l.length)) 0] := by
  have hne : l ≠ [] := List.length_pos_iff.1 hl
  rw [enc_step (n := n) al (by omega) hne, List.take_append, List.take_of_length_le hn, List.take_replicate, List.drop_eq_nil_iff.2 hn, enc_nil, ofb_append, ofb_zero, List.length_replicate]
  rw [show min (n - l.length) n = n - l.length by omega, Nat.add_zero]
theorem bits_cons (c : UInt8) (r : List UInt8) : bitsL (c :: r) = tob c.toNat 8 ++ bitsL r := rfl
theorem encF_len (n : Nat) (al : List UInt8) (hn : 1 ≤ n) : ∀ (f : Nat) (l : List Nat), (encF n al f l).length ≤ l.length
  | 0, l => by simp [encF]
  | f + 1, l => by
    simp only [encF]
    by_cases hl : l = []
    · simp [hl]
    · have hp : 0 < l.length := List.length_pos_iff.2 hl
      have := encF_len n al hn f (l.drop n)
      rw [List.length_drop] at this
      rw [if_neg hl, List.length_cons]; omega
theorem enc_len (n : Nat) (al : List UInt8) (hn : 1 ≤ n) (l : List Nat) : (enc n al l).length ≤ l.length := encF_len n al hn _ _
theorem bitsL_len (d : List UInt8) : (bitsL d).length = 8 * d.length := by
  induction d with
  | nil => rfl
  | cons c r ih => rw [bits_cons, List.length_append, tob_length, ih, List.length_cons]; omega
theorem to_step {n : Nat} {al : List UInt8} {A : List UInt8} {h b : Nat} {c : UInt8} {r l : List UInt8} {R : List UInt8} (h1 : A ++ enc n al (tob h b ++ bitsL l) = R) (hl : l = c :: r) (hb : b + 8 ≤ 12) {H : Nat} (hH : (h * 256 + c.toNat) % 4096 = H) :
    A ++ enc n al (tob H (b + 8) ++ bitsL r) = R := by
  subst hl
  have hc := c.toNat_lt
  have e1 : tob H (b + 8) = tob h b ++ tob c.toNat 8 := by
    rw [← hH, show (4096 : Nat) = 2 ^ 12 from rfl, tob_mod _ _ _ hb, show (256 : Nat) = 2 ^ 8 from rfl, tob_append _ _ _ _ (by omega)]
  rw [e1, List.append_assoc, ← bits_cons]
  exact h1
theorem to_letter {n : Nat} {al : List UInt8} {A : List UInt8} {H q : Nat} {l : List Nat} {R : List UInt8} (h1 : A ++ enc n al (tob H (q + n) ++ l) = R) (hn : 1 ≤ n) :
    (A ++ [al.getD (H / 2 ^ q % 2 ^ n) 0]) ++ enc n al (tob H q ++ l) = R := by
  have e : tob H (q + n) = tob (H / 2 ^ q) n ++ tob H q := by
    have h2 := tob_append (H / 2 ^ q) (H % 2 ^ q) n q (Nat.mod_lt _ (Nat.two_pow_pos q))
    rw [Nat.div_add_mod', tob_mod H q q (Nat.le_refl _), Nat.add_comm n q] at h2
    exact h2
  rw [e, List.append_assoc, enc_full al _ _ hn (tob_length _ _), ofb_tob] at h1
  rw [← h1]; simp
theorem to_last {n : Nat} {al : List UInt8} {A : List UInt8} {H b : Nat} {R : List UInt8} (h1 : A ++ enc n al (tob H b ++ bitsL []) = R) (hb : 0 < b) (hn : b ≤ n) :
    A ++ [al.getD (H * 2 ^ (n - b) % 2 ^ n) 0] = R := by
  have e : tob H b ++ bitsL [] = tob H b := by simp [bitsL]
  rw [e, enc_last al _ (by rw [tob_length]; exact hb) (by rw [tob_length]; exact hn), tob_length, ofb_tob] at h1
  rw [← h1]
  obtain ⟨d, rfl⟩ : ∃ d, n = b + d := ⟨n - b, by omega⟩
  rw [Nat.add_sub_cancel_left, Nat.pow_add, Nat.mul_mod_mul_right]
theorem to_end {n : Nat} {al : List UInt8} {A : List UInt8} {H : Nat} {R : List UInt8} (h1 : A ++ enc n al (tob H 0 ++ bitsL []) = R) : A = R := by
  rw [← h1]; simp [tob, bitsL, enc_nil]
end Go.Proofs.YtjejmgdpjfdhjaaDoor.bits
