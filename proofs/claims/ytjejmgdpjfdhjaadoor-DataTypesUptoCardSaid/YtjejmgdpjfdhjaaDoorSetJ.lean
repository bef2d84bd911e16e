/- The set that is made block by block: plain. -/
import Derived.Test.YtjejmgdpjfdhjaaDoorSetI
namespace Go.Proofs.YtjejmgdpjfdhjaaDoor.setJ
open Go.Proofs.YtjejmgdpjfdhjaaDoor.nspec Go.Proofs.YtjejmgdpjfdhjaaDoor.bits Go.Proofs.YtjejmgdpjfdhjaaDoor.fld Go.Proofs.YtjejmgdpjfdhjaaDoor.typesP Go.Proofs.YtjejmgdpjfdhjaaDoor.setP Go.Proofs.YtjejmgdpjfdhjaaDoor.setI
set_option linter.unusedVariables false

/-- bits put together, the first one highest -/
def vS (f : Nat → Bool) : Nat → Nat
  | 0 => 0
  | k + 1 => 2 * vS f k + (if f k then 1 else 0)
theorem vS_succ (f : Nat → Bool) (k : Nat) : vS f (k + 1) = 2 * vS f k + (if f k then 1 else 0) := rfl
theorem vS_lt (f : Nat → Bool) : ∀ k, vS f k < 2 ^ k
  | 0 => by simp [vS]
  | k + 1 => by
    have := vS_lt f k
    rw [Nat.pow_succ]; unfold vS; split <;> omega
theorem vS_bit (f : Nat → Bool) : ∀ (k i : Nat), i < k → (vS f k / 2 ^ (k - 1 - i) % 2 = 1 ↔ f i = true)
  | 0, i, h => by omega
  | k + 1, i, h => by
    by_cases e : i = k
    · subst e
      rw [show i + 1 - 1 - i = 0 by omega, Nat.pow_zero, Nat.div_one]
      rw [vS_succ]
      cases f i <;> simp <;> omega
    · have ih := vS_bit f k i (by omega)
      rw [← ih, show k + 1 - 1 - i = (k - 1 - i) + 1 by omega, Nat.pow_succ]
      have : vS f (k + 1) / (2 ^ (k - 1 - i) * 2) = vS f k / 2 ^ (k - 1 - i) := by
        rw [Nat.mul_comm, ← Nat.div_div_eq_div_mul]
        congr 1
        rw [vS_succ]; split <;> omega
      rw [this]
def rowS (f : Nat → Bool) (n : Nat) : Bs := (List.range n).map fun j => UInt8.ofNat (vS (fun i => f (8 * j + i)) 8)
theorem rowS_len (f : Nat → Bool) (n : Nat) : (rowS f n).length = n := by simp [rowS]
theorem rowS_succ (f : Nat → Bool) (n : Nat) : rowS f (n + 1) = rowS f n ++ [UInt8.ofNat (vS (fun i => f (8 * n + i)) 8)] := by
  unfold rowS; rw [List.range_succ, List.map_append]; rfl
theorem rowS_get (f : Nat → Bool) {n j : Nat} (h : j < n) : (rowS f n).getD j 0 = UInt8.ofNat (vS (fun i => f (8 * j + i)) 8) := by
  rw [List.getD_eq_getElem?_getD]; simp [rowS, h]
theorem rowS_bit (f : Nat → Bool) {n k : Nat} (h : k < 8 * n) : bitOf (rowS f n) k = 1 ↔ f k = true := by
  unfold bitOf
  rw [rowS_get f (by omega), UInt8.toNat_ofNat_of_lt' (vS_lt _ 8)]
  have := vS_bit (fun i => f (8 * (k / 8) + i)) 8 (k % 8) (by omega)
  rw [show 8 - 1 - k % 8 = 7 - k % 8 by omega] at this
  rw [this, show 8 * (k / 8) + k % 8 = k by omega]
theorem rowS_last (f : Nat → Bool) {n j : Nat} (hn : n = j / 8 + 1) (hj : f j = true) : (rowS f n).getD (n - 1) 0 ≠ 0 := by
  intro h
  have h1 := (rowS_bit f (n := n) (k := j) (by omega)).2 hj
  unfold bitOf at h1
  rw [show j / 8 = n - 1 by omega, h] at h1
  simp at h1
/-- what the bytes so far tell: the numbers of the blocks ahead of b -/
def Told (O : Bs) (b : Nat) (m : Nat → Bool) : Prop := ∃ (lA : List Nat) (last : Int), last < (b : Int) ∧ (∀ rest, typesA (-1) [] (O ++ rest) = typesA last lA rest) ∧ ∀ x, x ∈ lA ↔ (x / 256 < b ∧ m x = true)
theorem told_0 (m : Nat → Bool) : Told [] 0 m := ⟨[], -1, by omega, fun rest => rfl, fun x => by simp⟩
theorem told_none {O : Bs} {b : Nat} {m : Nat → Bool} (h : Told O b m) (hn : ∀ k, k < 256 → m (256 * b + k) = false) : Told O (b + 1) m := by
  obtain ⟨lA, last, h1, h2, h3⟩ := h
  refine ⟨lA, last, by omega, h2, fun x => ?_⟩
  rw [h3 x]
  constructor
  · rintro ⟨a, c⟩; exact ⟨by omega, c⟩
  · rintro ⟨a, c⟩
    refine ⟨?_, c⟩
    rcases Nat.lt_or_ge (x / 256) b with h | h
    · exact h
    · have := hn (x % 256) (by omega)
      rw [show 256 * b + x % 256 = x by omega, c] at this; cases this
theorem told_row {O : Bs} {b n j : Nat} {m : Nat → Bool} (h : Told O b m) (hb : b < 256) (hj : j < 256) (hn : n = j / 8 + 1) (hm : m (256 * b + j) = true) (hmax : ∀ k, k < 256 → m (256 * b + k) = true → k / 8 + 1 ≤ n) :
    Told (O ++ (UInt8.ofNat b :: UInt8.ofNat n :: rowS (fun k => m (256 * b + k)) n)) (b + 1) m := by
  obtain ⟨lA, last, h1, h2, h3⟩ := h
  have hl := rowS_len (fun k => m (256 * b + k)) n
  refine ⟨lA ++ blockL b (rowS (fun k => m (256 * b + k)) n), (b : Int), by omega, fun rest => ?_, fun x => ?_⟩
  · rw [List.append_assoc, h2]
    have := types_row (last := last) (out := lA) (b := b) (r := rowS (fun k => m (256 * b + k)) n) hb h1 (by omega) (by omega) (by rw [hl]; exact rowS_last (fun k => m (256 * b + k)) hn hm) rest
    rw [hl] at this; exact this
  · rw [List.mem_append, h3 x, mem_block]
    constructor
    · rintro (⟨a, c⟩ | ⟨k, c1, c2⟩)
      · exact ⟨by omega, c⟩
      · have hk : k < 8 * n := by
          rcases Nat.lt_or_ge k (8 * n) with h | h
          · exact h
          · rw [bitOf_out (by rw [hl]; omega)] at c1; cases c1
        rw [rowS_bit _ hk] at c1
        refine ⟨by omega, ?_⟩
        rw [c2, Nat.mul_comm]; exact c1
    · rintro ⟨a, c⟩
      rcases Nat.lt_or_ge (x / 256) b with h | h
      · exact .inl ⟨h, c⟩
      · have e : 256 * b + x % 256 = x := by omega
        have h5 := hmax (x % 256) (by omega) (by rw [e]; exact c)
        refine .inr ⟨x % 256, ?_, by omega⟩
        rw [rowS_bit _ (by omega)]
        show m (256 * b + x % 256) = true
        rw [e]; exact c
/-- all blocks: it is the set -/
theorem told_all {O : Bs} {L : List Int} {m : Nat → Bool} (h : Told O 256 m) (hm : ∀ t, t < 65536 → (m t = true ↔ ((t : Int) ∈ L ∧ isT (t : Int)))) : O = setL (sortL L) := by
  obtain ⟨l, h1, h2, h3, h4⟩ := set_types L
  obtain ⟨lA, last, g1, g2, g3⟩ := h
  have g4 := g2 []
  rw [List.append_nil, types_end] at g4
  have g5 : ∀ x, x ∈ lA ↔ x ∈ l := fun x => by
    rw [g3 x, h2 x]
    constructor
    · rintro ⟨a, c⟩; exact (hm x (by omega)).1 c
    · rintro c
      have : x < 65536 := by have := c.2; unfold isT at this; omega
      exact ⟨by omega, (hm x this).2 c⟩
  have g6 := (sorted_of g4).1
  have g7 : lA = l := sorted_ext lA l g6 h3 g5
  subst g7
  refine set_inj (l := lA) ?_ h1
  rw [typesS_eq, g4]
  have : 0 ∉ lA := fun h0 => by
    have := ((h2 0).1 h0).2
    unfold isT at this; omega
  simp [this]
end Go.Proofs.YtjejmgdpjfdhjaaDoor.setJ
