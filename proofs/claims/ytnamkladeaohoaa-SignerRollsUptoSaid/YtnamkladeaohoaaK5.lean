/- Lists of ints in memory; gazetteerref1.bits: walk. -/
import Derived.Test.YtnamkladeaohoaaK4
import Derived.Maps.AppendAt
namespace Go.Proofs.Ytnamkladeaohoaa.ints
open Go.RowKit Go.Proofs.Ytnamkladeaohoaa.kit Go.Proofs.Ytnamkladeaohoaa.bits

theorem infoInt : (Try.prog.info? 3).map (fun i => (i.zero, i.size, i.bytes)) = some (some (.int .i64 0), 1, 8) := by kernel_rfl
def bitV (x : Nat) : Value := .int .i64 (x : Int)

/-- a list of numbers can be read from address a on -/
def RdN (w : World) (a : Option Addr) (ls : List Nat) : Prop :=
  ∀ (j : Nat) (x : Nat), ls[j]? = some x → ∃ g o, a = some ⟨g, o, none⟩ ∧ g < w.heap.size ∧ w.cell? ⟨g, o + j, none⟩ = some (bitV x)
theorem RdN.nil (w : World) (a : Option Addr) : RdN w a [] := by intro j x h; simp at h
theorem RdN.below {w w' : World} {a : Option Addr} {B : Nat} {ls : List Nat} (h : RdN w a ls) (hB : Below B w w') (hz : B = w.heap.size) : RdN w' a ls := by
  intro j x hx
  obtain ⟨g, o, h1, h3, h4⟩ := h j x hx
  exact ⟨g, o, h1, Nat.lt_of_lt_of_le h3 hB.size, (hB.cell (p := ⟨g, o + j, none⟩) (by rw [hz]; exact h3)).trans h4⟩
theorem RdN.of_own {w : World} {base : Nat} {v : Value} {ls : List Nat} (h : w.ownsRow base 3 1 v ls.length (ls.map bitV)) : ∃ a c, v = .slice a ls.length c ∧ ls.length ≤ c ∧ c ≤ maxLen ∧ RdN w a ls := by
  rcases h.2 with ⟨rfl, h0⟩ | ⟨g, cap, cur, rfl, hb, hg, h1, h2, _, htake⟩
  · have : ls = [] := List.eq_nil_of_length_eq_zero h0
    subst this
    exact ⟨none, 0, rfl, Nat.le_refl _, Nat.zero_le _, RdN.nil _ _⟩
  · refine ⟨_, cap, rfl, h1, h2, ?_⟩
    intro j x hx
    refine ⟨g, 0, rfl, (Array.getElem?_eq_some_iff.1 hg).1, ?_⟩
    have := h.cells (g := g) rfl j (bitV x) (by rw [List.getElem?_map, hx]; rfl)
    have hadd : (⟨g, 0, none⟩ : Addr).add j = ⟨g, 0 + j, none⟩ := by unfold Addr.add; split <;> simp_all
    rw [hadd] at this
    exact this
theorem RdN.drop {w : World} {g o : Nat} {ls : List Nat} (h : RdN w (some ⟨g, o, none⟩) ls) (k : Nat) : RdN w (some ⟨g, o + k, none⟩) (ls.drop k) := by
  intro j x hx
  rw [List.getElem?_drop] at hx
  obtain ⟨g', o', h1, h2, h3⟩ := h _ x hx
  cases h1
  exact ⟨g, o + k, rfl, h2, by rw [Nat.add_assoc]; exact h3⟩
theorem RdN.addr {w : World} {a : Option Addr} {ls : List Nat} (h : RdN w a ls) (hl : 0 < ls.length) : ∃ g o, a = some ⟨g, o, none⟩ := by
  obtain ⟨g, o, h1, _⟩ := h 0 _ (List.getElem?_eq_getElem hl)
  exact ⟨g, o, h1⟩
theorem own_snocN {w1 : World} {base : Nat} {v' : Value} {acc : List Nat} {d : Nat} (h : w1.ownsRow base 3 1 v' (acc.length + 1) (acc.map bitV ++ [.int .i64 (d : Int)])) : w1.ownsRow base 3 1 v' (acc ++ [d]).length ((acc ++ [d]).map bitV) := by
  simpa [bitV] using h

/-- the mark of the highest of r bits -/
def mOf : Nat → Nat
  | 0 => 0
  | r + 1 => 2 ^ r
theorem mOf_half (r : Nat) : mOf (r + 1) / 2 = mOf r := by
  cases r with
  | zero => rfl
  | succ r => show 2 ^ (r + 1) / 2 = 2 ^ r; rw [Nat.pow_succ]; omega
theorem mOf_pos (r : Nat) : 1 ≤ mOf (r + 1) := Nat.two_pow_pos r
theorem mOf_le (r : Nat) (h : r ≤ 8) : mOf r ≤ 128 := by
  cases r with
  | zero => exact Nat.zero_le _
  | succ r => exact Nat.pow_le_pow_right (n := 2) (by omega) (show r ≤ 7 by omega)
theorem bit_step {v r : Nat} {A l R : List Nat} (h : A ++ (tob v (r + 1) ++ l) = R) : (A ++ [v / mOf (r + 1) % 2]) ++ (tob v r ++ l) = R := by
  rw [← h]; simp [tob, mOf]
theorem bit_done {v : Nat} {A l R : List Nat} (h : A ++ (tob v 0 ++ l) = R) : A ++ l = R := by
  rw [← h]; simp [tob]

end Go.Proofs.Ytnamkladeaohoaa.ints
