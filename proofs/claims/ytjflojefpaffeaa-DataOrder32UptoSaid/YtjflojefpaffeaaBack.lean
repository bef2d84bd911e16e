/- Base 2^n back: plain. -/
import Derived.Test.YtjflojefpaffeaaBits
import Derived.Test.YtjflojefpaffeaaLow
namespace Go.Proofs.Ytjflojefpaffeaa.back
open Go.Proofs.Ytjflojefpaffeaa.kit Go.Proofs.Ytjflojefpaffeaa.bits Go.Proofs.Ytjflojefpaffeaa.low

def zeros (l : List Nat) : Bool := l.all (· == 0)
def wholeF (most : Nat) : Nat → List Nat → Option (List UInt8)
  | 0, l => if zeros l && decide (l.length < most) then some [] else none
  | f + 1, l => if 8 ≤ l.length then (wholeF most f (l.drop 8)).map (UInt8.ofNat (ofb (l.take 8)) :: ·) else if zeros l && decide (l.length < most) then some [] else none
/-- bits as bytes; what is left over is nought and shorter than most -/
def whole (most : Nat) (l : List Nat) : Option (List UInt8) := wholeF most l.length l
theorem wholeF_fuel (most : Nat) : ∀ (f g : Nat) (l : List Nat), l.length ≤ f → l.length ≤ g → wholeF most f l = wholeF most g l
  | 0, 0, _, _, _ => rfl
  | 0, g + 1, l, h, _ => by
    have : l = [] := List.eq_nil_of_length_eq_zero (by omega)
    subst this; simp [wholeF]
  | f + 1, 0, l, _, h => by
    have : l = [] := List.eq_nil_of_length_eq_zero (by omega)
    subst this; simp [wholeF]
  | f + 1, g + 1, l, h1, h2 => by
    simp only [wholeF]
    by_cases hl : 8 ≤ l.length
    · rw [if_pos hl, if_pos hl, wholeF_fuel most f g (l.drop 8) (by rw [List.length_drop]; omega) (by rw [List.length_drop]; omega)]
    · rw [if_neg hl, if_neg hl]
theorem whole_step {most : Nat} {l : List Nat} (h : 8 ≤ l.length) : whole most l = (whole most (l.drop 8)).map (UInt8.ofNat (ofb (l.take 8)) :: ·) := by
  unfold whole
  obtain ⟨f, hf⟩ : ∃ f, l.length = f + 1 := ⟨l.length - 1, by omega⟩
  rw [hf, wholeF, if_pos h, wholeF_fuel most f (l.drop 8).length (l.drop 8) (by rw [List.length_drop]; omega) (Nat.le_refl _)]
theorem whole_end {most : Nat} {l : List Nat} (h : l.length < 8) : whole most l = if zeros l && decide (l.length < most) then some [] else none := by
  unfold whole
  cases hf : l.length with
  | zero => rw [wholeF, hf]
  | succ f => rw [wholeF, if_neg (by omega), hf]
theorem whole_byte {most : Nat} (v : Nat) (l : List Nat) : whole most (tob v 8 ++ l) = (whole most l).map (UInt8.ofNat v :: ·) := by
  rw [whole_step (by rw [List.length_append, tob_length]; omega), List.drop_left' (tob_length _ _), List.take_left' (tob_length _ _), ofb_tob]
  have : UInt8.ofNat (v % 2 ^ 8) = UInt8.ofNat v := by
    apply UInt8.toNat_inj.1
    simp [UInt8.toNat_ofNat']
  rw [this]
theorem whole_len (most : Nat) : ∀ (f : Nat) (l : List Nat) (r : List UInt8), wholeF most f l = some r → r.length ≤ l.length
  | 0, l, r, h => by
    simp only [wholeF] at h
    split at h
    · have : r = [] := by simpa using h.symm
      subst this; simp
    · simp at h
  | f + 1, l, r, h => by
    simp only [wholeF] at h
    by_cases hl : 8 ≤ l.length
    · rw [if_pos hl] at h
      cases hw : wholeF most f (l.drop 8) with
      | none => rw [hw] at h; simp at h
      | some t =>
        rw [hw] at h
        have e : r = UInt8.ofNat (ofb (l.take 8)) :: t := by simpa using h.symm
        subst e
        have := whole_len most f _ _ hw
        rw [List.length_drop] at this
        rw [List.length_cons]; omega
    · rw [if_neg hl] at h
      split at h
      · have : r = [] := by simpa using h.symm
        subst this; simp
      · simp at h
theorem ofb_zeros : ∀ (l : List Nat), zeros l = decide (ofb l = 0)
  | [] => by simp [zeros, ofb]
  | b :: r => by
    have ih := ofb_zeros r
    have e : zeros (b :: r) = ((b == 0) && zeros r) := by simp [zeros]
    rw [e, ih, ofb_cons, Bool.eq_iff_iff]
    have hp := Nat.two_pow_pos r.length
    simp only [Bool.and_eq_true, beq_iff_eq, decide_eq_true_eq]
    constructor
    · rintro ⟨h1, h2⟩; rw [h1, h2]; simp
    · intro h
      have h1 : b * 2 ^ r.length = 0 := by omega
      have h2 : ofb r = 0 := by omega
      rcases Nat.mul_eq_zero.1 h1 with h3 | h3
      · exact ⟨h3, h2⟩
      · omega
theorem zeros_tob (h b : Nat) : zeros (tob h b) = decide (h % 2 ^ b = 0) := by rw [ofb_zeros, ofb_tob]

/-- letters as bits -/
def spreadS (n : Nat) (val : UInt8 → Option Nat) : List UInt8 → Option (List Nat)
  | [] => some []
  | c :: r => match val c with
    | none => none
    | some v => (spreadS n val r).map (tob v n ++ ·)
theorem spread_cons_some {n : Nat} {val : UInt8 → Option Nat} {c : UInt8} {r : List UInt8} {v : Nat} (h : val c = some v) : spreadS n val (c :: r) = (spreadS n val r).map (tob v n ++ ·) := by
  simp only [spreadS, h]
theorem spread_cons_none {n : Nat} {val : UInt8 → Option Nat} {c : UInt8} {r : List UInt8} (h : val c = none) : spreadS n val (c :: r) = none := by
  simp only [spreadS, h]
theorem spread_len (n : Nat) (val : UInt8 → Option Nat) : ∀ (l : List UInt8) (r : List Nat), spreadS n val l = some r → r.length = n * l.length
  | [], r, h => by
    have : r = [] := by simpa [spreadS] using h.symm
    subst this; rfl
  | c :: t, r, h => by
    cases hv : val c with
    | none => rw [spread_cons_none hv] at h; simp at h
    | some v =>
      rw [spread_cons_some hv] at h
      cases hs : spreadS n val t with
      | none => rw [hs] at h; simp at h
      | some u =>
        rw [hs] at h
        have e : r = tob v n ++ u := by simpa using h.symm
        subst e
        rw [List.length_append, tob_length, spread_len n val t u hs, List.length_cons, Nat.mul_add]; omega
theorem spread_01 (n : Nat) (val : UInt8 → Option Nat) : ∀ (l : List UInt8) (r : List Nat), spreadS n val l = some r → ∀ x ∈ r, x ≤ 1
  | [], r, h => by
    have : r = [] := by simpa [spreadS] using h.symm
    subst this; intro x hx; simp at hx
  | c :: t, r, h => by
    cases hv : val c with
    | none => rw [spread_cons_none hv] at h; simp at h
    | some v =>
      rw [spread_cons_some hv] at h
      cases hs : spreadS n val t with
      | none => rw [hs] at h; simp at h
      | some u =>
        rw [hs] at h
        have e : r = tob v n ++ u := by simpa using h.symm
        subst e
        intro x hx
        rcases List.mem_append.1 hx with hx | hx
        · have ht : ∀ n : Nat, ∀ x ∈ tob v n, x ≤ 1 := by
            intro n
            induction n with
            | zero => intro x hx; simp [tob] at hx
            | succ n ih =>
              intro x hx
              rw [tob, List.mem_cons] at hx
              rcases hx with rfl | hx
              · omega
              · exact ih x hx
          exact ht n x hx
        · exact spread_01 n val t u hs x hx

/-- what is still to come behind A and the bits P -/
def backS (most n : Nat) (val : UInt8 → Option Nat) (A : List UInt8) (P : List Nat) (l : List UInt8) : Option (List UInt8) := (spreadS n val l).bind fun b => (whole most (P ++ b)).map (A ++ ·)
theorem back_none {most n : Nat} {val : UInt8 → Option Nat} {A : List UInt8} {P : List Nat} {l r : List UInt8} {c : UInt8} {R : Option (List UInt8)} (h : backS most n val A P l = R) (hl : l = c :: r) (hv : val c = none) : R = none := by
  subst hl; rw [← h, backS, spread_cons_none hv]; rfl
theorem back_some {most n h0 b : Nat} {val : UInt8 → Option Nat} {A : List UInt8} {l r : List UInt8} {c : UInt8} {v H : Nat} {R : Option (List UInt8)} (h : backS most n val A (tob h0 b) l = R) (hl : l = c :: r) (hv : val c = some v) (hvn : v < 2 ^ n) (hb : b + n ≤ 12) (hH : (h0 * 2 ^ n + v) % 4096 = H) :
    backS most n val A (tob H (b + n)) r = R := by
  subst hl
  have e1 : tob H (b + n) = tob h0 b ++ tob v n := by
    rw [← hH, show (4096 : Nat) = 2 ^ 12 from rfl, tob_mod _ _ _ hb, tob_append _ _ _ _ hvn]
  rw [← h, e1]
  simp only [backS, spread_cons_some hv]
  cases spreadS n val r with
  | none => rfl
  | some u => simp
theorem back_byte {most n : Nat} {val : UInt8 → Option Nat} {A : List UInt8} {H q : Nat} {l : List UInt8} {R : Option (List UInt8)} (h : backS most n val A (tob H (q + 8)) l = R) :
    backS most n val (A ++ [UInt8.ofNat (H / 2 ^ q)]) (tob H q) l = R := by
  have e : tob H (q + 8) = tob (H / 2 ^ q) 8 ++ tob H q := by
    have h2 := tob_append (H / 2 ^ q) (H % 2 ^ q) 8 q (Nat.mod_lt _ (Nat.two_pow_pos q))
    rw [Nat.div_add_mod', tob_mod H q q (Nat.le_refl _), Nat.add_comm 8 q] at h2
    exact h2
  rw [← h]
  simp only [backS]
  cases spreadS n val l with
  | none => rfl
  | some u =>
    simp only [Option.bind_some, e, List.append_assoc, whole_byte]
    cases whole most (tob H q ++ u) with
    | none => rfl
    | some t => simp
theorem back_end {most n : Nat} {val : UInt8 → Option Nat} {A : List UInt8} {h0 b : Nat} {R : Option (List UInt8)} (h : backS most n val A (tob h0 b) [] = R) (hb : b < 8) : R = if h0 % 2 ^ b = 0 ∧ b < most then some A else none := by
  rw [← h]
  simp only [backS, spreadS, Option.bind_some, List.append_nil]
  rw [whole_end (by rw [tob_length]; exact hb), zeros_tob, tob_length]
  by_cases h1 : h0 % 2 ^ b = 0 <;> by_cases h2 : b < most <;> simp [h1, h2]

def val32 (c : UInt8) : Option Nat := if 48 ≤ c.toNat ∧ c.toNat ≤ 57 then some (c.toNat - 48) else if 97 ≤ c.toNat ∧ c.toNat ≤ 118 then some (c.toNat - 87) else if 65 ≤ c.toNat ∧ c.toNat ≤ 86 then some (c.toNat - 55) else none
def from32S (s : List UInt8) : Option (List UInt8) := backS 5 5 val32 [] [] s
theorem val32_lt {c : UInt8} {v : Nat} (h : val32 c = some v) : v < 32 := by
  unfold val32 at h
  split at h
  · injection h with h; omega
  · split at h
    · injection h with h; omega
    · split at h
      · injection h with h; omega
      · simp at h
/-- the bytes and whether they are any -/
def two (o : Option (List UInt8)) : Ending := match o with
  | none => .returned (.tuple #[.string ⟨#[]⟩, .bool false])
  | some d => .returned (.tuple #[.string ⟨d.toArray⟩, .bool true])
end Go.Proofs.Ytjflojefpaffeaa.back
