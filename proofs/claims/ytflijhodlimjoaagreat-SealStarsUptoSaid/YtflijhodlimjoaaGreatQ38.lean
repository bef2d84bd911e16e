/- data.Set: walk. -/
import Derived.Test.YtflijhodlimjoaaGreatQ37
import Derived.Test.YtflijhodlimjoaaGreatK15
import Derived.Test.YtflijhodlimjoaaGreatShelf
import Derived.Sort.OwnSortedInts
import Derived.BigRegion
import Derived.Deep.DeepCutAuto
import Derived.StillTailTactics
namespace Go.Proofs.YtflijhodlimjoaaGreat.setW
open Go.RowKit Go.Proofs.YtflijhodlimjoaaGreat.kit Go.Proofs.YtflijhodlimjoaaGreat.nspec Go.Proofs.YtflijhodlimjoaaGreat.bits Go.Proofs.YtflijhodlimjoaaGreat.ints Go.Proofs.YtflijhodlimjoaaGreat.bld Go.Proofs.YtflijhodlimjoaaGreat.coded Go.Proofs.YtflijhodlimjoaaGreat.fld Go.Proofs.YtflijhodlimjoaaGreat.typesP Go.Proofs.YtflijhodlimjoaaGreat.setP
set_option linter.unusedVariables false

/-- a list of numbers, of any sign, can be read from address a on -/
def RdI (w : World) (a : Option Addr) (ls : List Int) : Prop :=
  ∀ (j : Nat) (x : Int), ls[j]? = some x → ∃ g o, a = some ⟨g, o, none⟩ ∧ g < w.heap.size ∧ w.cell? ⟨g, o + j, none⟩ = some (.int .i64 x)
theorem RdI.below {w w' : World} {a : Option Addr} {B : Nat} {ls : List Int} (h : RdI w a ls) (hB : Below B w w') (hz : B = w.heap.size) : RdI w' a ls := by
  intro j x hx
  obtain ⟨g, o, h1, h3, h4⟩ := h j x hx
  exact ⟨g, o, h1, Nat.lt_of_lt_of_le h3 hB.size, (hB.cell (p := ⟨g, o + j, none⟩) (by rw [hz]; exact h3)).trans h4⟩
theorem RdI.of_own {w : World} {base : Nat} {v : Value} {ls : List Int} {n : Nat} (hn : n = ls.length) (h : w.ownsRow base 3 1 v n (ls.map (Value.int .i64))) : ∃ a c, v = .slice a n c ∧ n ≤ c ∧ c ≤ maxLen ∧ RdI w a ls := by
  subst hn
  rcases h.2 with ⟨rfl, h0⟩ | ⟨g, cap, cur, rfl, hb, hg, h1, h2, _, htake⟩
  · have : ls = [] := List.eq_nil_of_length_eq_zero h0
    subst this
    exact ⟨none, 0, rfl, Nat.le_refl _, Nat.zero_le _, by intro j x h; simp at h⟩
  · refine ⟨_, cap, rfl, h1, h2, ?_⟩
    intro j x hx
    refine ⟨g, 0, rfl, (Array.getElem?_eq_some_iff.1 hg).1, ?_⟩
    have := h.cells (g := g) rfl j (.int .i64 x) (by rw [List.getElem?_map, hx]; rfl)
    have hadd : (⟨g, 0, none⟩ : Addr).add j = ⟨g, 0 + j, none⟩ := by unfold Addr.add; split <;> simp_all
    rw [hadd] at this
    exact this
theorem rdI_nat {w : World} {a : Option Addr} {ls : List Nat} (h : RdN w a ls) : RdI w a (ls.map fun x : Nat => (x : Int)) := by
  intro j x hx
  rw [List.getElem?_map] at hx
  obtain ⟨y, h1, rfl⟩ := Option.map_eq_some_iff.1 hx
  exact h j y h1

/-- a cell of one's own row, written -/
theorem ownsRow_set {w : World} {base : Nat} {e : TypeId} {g n cap : Nat} {xs : List Value} (h : w.ownsRow base e 1 (.slice (some ⟨g, 0, none⟩) n cap) n xs) (k : Nat) (hk : k < n) (u : Value) :
    (w.setCell ⟨g, k, none⟩ u).ownsRow base e 1 (.slice (some ⟨g, 0, none⟩) n cap) n (xs.set k u) := by
  obtain ⟨h1, h2⟩ := h
  rcases h2 with ⟨h2, _⟩ | ⟨g', cap', cur, hv, hg, hh, r1, r2, r3, r4⟩
  · cases h2
  · cases hv
    refine ⟨by rw [List.length_set]; exact h1, .inr ⟨g, cap, _, rfl, hg, heap_setCell_same w g k cur e u hh, r1, r2, by simpa using r3, ?_⟩⟩
    rw [← r4, Nat.mul_one, Array.toList_setIfInBounds, List.take_set]
theorem own_addr {w : World} {base : Nat} {e : TypeId} {v : Value} {n : Nat} {xs : List Value} (h : w.ownsRow base e 1 v n xs) (hn : 1 ≤ n) : ∃ g cap, v = .slice (some ⟨g, 0, none⟩) n cap ∧ base ≤ g ∧ g < w.heap.size ∧ n ≤ cap ∧ cap ≤ maxLen ∧ (∀ j u, xs[j]? = some u → w.cell? ⟨g, j, none⟩ = some u) ∧ (∀ j, w.frozen? ⟨g, j, none⟩ = false) := by
  rcases h.2 with ⟨_, h0⟩ | ⟨g, cap, cur, rfl, hb, hg, h1, h2, _, _⟩
  · omega
  · refine ⟨g, cap, rfl, hb, (Array.getElem?_eq_some_iff.1 hg).1, h1, h2, fun j u hj => ?_, fun j => by simp [World.frozen?, hg]⟩
    have := h.cells (g := g) rfl j u hj
    have hadd : (⟨g, 0, none⟩ : Addr).add j = ⟨g, j, none⟩ := by unfold Addr.add; split <;> simp_all
    rw [hadd] at this
    exact this
theorem own_slice {w : World} {base : Nat} {e : TypeId} {v : Value} {n : Nat} {xs : List Value} (h : w.ownsRow base e 1 v n xs) : ∃ a c, v = .slice a n c := by
  rcases h.2 with ⟨rfl, rfl⟩ | ⟨g, cap, cur, rfl, _⟩
  · exact ⟨_, _, rfl⟩
  · exact ⟨_, _, rfl⟩
/-- the row of bytes under way: what stands ahead of the block, and the block -/
structure Row (w0 w : World) (v : Value) (A B : Bs) (h N : Nat) : Prop where
  own : w.ownsRow w0.heap.size 5 1 v N (Lib.byteCells (A ++ B))
  hA : A.length = h
  hN : h + B.length = N
  below : Below w0.heap.size w0 w
theorem Row.open {w0 w : World} {v : Value} {A B : Bs} {h N : Nat} (r : Row w0 w v A B h N) : ∃ a c, v = .slice a N c := own_slice r.own
theorem Row.make {w0 w : World} {v : Value} {A B O : Bs} (h : w.ownsRow w0.heap.size 5 1 v O.length (Lib.byteCells O)) (hO : O = A ++ B) (hb : Below w0.heap.size w0 w) : Row w0 w v A B A.length (A.length + B.length) := by
  subst hO; rw [List.length_append] at h; exact ⟨h, rfl, rfl, hb⟩
theorem cell_two_new (w : World) (e : TypeId) (x y : Value) : ∀ (j : Nat) (u : Value), [x, y][j]? = some u → (w.alloc (.cells #[x, y] e)).cell? ((⟨w.heap.size, 0, none⟩ : Addr).add j) = some u := by
  intro j u h
  match j, h with
  | 0, h => simp at h; subst h; simp [World.cell?, World.alloc, Addr.add, -World.alloc_eq]
  | 1, h => simp at h; subst h; simp [World.cell?, World.alloc, Addr.add, -World.alloc_eq]
theorem and255 {x : Int} (h₀ : 0 ≤ x) (h₁ : x < 2147483648) : bits .and .i64 x 255 = x % 256 := bits_mask .i64 31 (by decide) to32.wraps31 8 (by decide) x h₀ h₁
theorem cells_get (l : Bs) (j : Nat) (h : j < l.length) : (Lib.byteCells l)[j]? = some (.int .u8 ((l.getD j 0).toNat : Int)) := by
  simp [Lib.byteCells, List.getD_eq_getElem?_getD, List.getElem?_eq_getElem h]
theorem cells_set (l : Bs) (k : Nat) (c : UInt8) : (Lib.byteCells l).set k (.int .u8 (c.toNat : Int)) = Lib.byteCells (l.set k c) := by
  simp [Lib.byteCells, List.map_set]
theorem or_mark (c : UInt8) (T : Nat) : bits .or .u8 (c.toNat : Int) ((128 : Int) / 2 ^ (T % 8)) = ((c ||| markT T).toNat : Int) := by
  have h : ∀ j, j < 8 → ((128 : Int) / 2 ^ j) = ((2 ^ (7 - j) : Nat) : Int) ∧ 2 ^ (7 - j) < 256 := by decide
  obtain ⟨h1, h2⟩ := h (T % 8) (by omega)
  rw [h1, u8_or_nat _ _ c.toNat_lt h2]
  simp only [markT, UInt8.toNat_or]
  rw [UInt8.toNat_ofNat_of_lt' h2]
theorem foldl_drop {L : List Int} {k : Nat} {t : Int} {s : St} {R : St} (h : (L.drop k).foldl setStep s = R) (hk : L[k]? = some t) : (L.drop (k + 1)).foldl setStep (setStep s t) = R := by
  obtain ⟨h1, h2⟩ := List.getElem?_eq_some_iff.1 hk
  rw [List.drop_eq_getElem_cons h1, h2] at h; exact h

end Go.Proofs.YtflijhodlimjoaaGreat.setW
