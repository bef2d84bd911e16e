/- The reference's Within, Common: walks. -/
import Derived.Test.YthblaldkpjilhaaRefA
namespace Go.Proofs.Ythblaldkpjilhaa.refB
open Go.RowKit Go.Proofs.Ythblaldkpjilhaa.kit Go.Proofs.Ythblaldkpjilhaa.nspec Go.Proofs.Ythblaldkpjilhaa.rsplit Go.Proofs.Ythblaldkpjilhaa.rput Go.Proofs.Ythblaldkpjilhaa.low Go.Proofs.Ythblaldkpjilhaa.refA

theorem tailS_len (l : Bs) (k : Int) : (tailS l k).length ≤ 255 := by
  unfold tailS
  cases h : split l with
  | none => simp
  | some ls =>
    simp only
    split
    · rw [put_length]; have := isN_room (split_iff.1 h); have := room_drop ls (ls.length - k.toNat); omega
    · simp
theorem countS_bd (l : Bs) : -1 ≤ countS l ∧ countS l ≤ 254 := by
  unfold countS
  cases h : split l with
  | none => simp
  | some ls => have := split_len (split_iff.1 h); simp only; omega

def wF (n z : Bs) : Nat → Nat → Bool
  | 0, _ => false
  | g + 1, k => if equalS (tailS n k) z then true else wF n z g (k + 1)
def withinS (n z : Bs) : Bool := wF n z (countS n + 1).toNat 0
theorem wF_yes {n z : Bs} {g k : Nat} {R : Bool} (h : wF n z g k = R) (hg : 0 < g) (he : equalS (tailS n k) z = true) : true = R := by
  obtain ⟨f, rfl⟩ : ∃ f, g = f + 1 := ⟨g - 1, by omega⟩
  rw [← h]; simp only [wF]; rw [if_pos he]
theorem wF_no {n z : Bs} {g k : Nat} {R : Bool} (h : wF n z g k = R) (hg : 0 < g) (he : equalS (tailS n k) z = false) : wF n z (g - 1) (k + 1) = R := by
  obtain ⟨f, rfl⟩ : ∃ f, g = f + 1 := ⟨g - 1, by omega⟩
  rw [← h]; simp only [wF]; rw [he]; simp

def cF (a b : Bs) : Nat → Bs
  | 0 => []
  | g + 1 => if withinS b (tailS a g) then tailS a g else cF a b g
def commonS (a b : Bs) : Bs := cF a b (countS a + 1).toNat
theorem cF_yes {a b : Bs} {g : Nat} {R : Bs} (h : cF a b (g + 1) = R) (he : withinS b (tailS a g) = true) : tailS a g = R := by
  rw [← h]; simp only [cF]; rw [if_pos he]
theorem cF_no {a b : Bs} {g : Nat} {R : Bs} (h : cF a b (g + 1) = R) (he : withinS b (tailS a g) = false) : cF a b g = R := by
  rw [← h]; simp only [cF]; rw [he]; simp

end Go.Proofs.Ythblaldkpjilhaa.refB
