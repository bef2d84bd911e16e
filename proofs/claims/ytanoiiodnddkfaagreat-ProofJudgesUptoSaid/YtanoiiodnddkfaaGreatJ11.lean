/- name.reader: add, end: walks. -/
import Derived.Test.YtanoiiodnddkfaaGreatJ10
import Derived.Deep.QuietTactic
import Derived.BigQuiet
import Derived.RegionTactic
import Derived.ChangeAlike
namespace Go.Proofs.YtanoiiodnddkfaaGreat.reader
open Go.RowKit Go.Proofs.YtanoiiodnddkfaaGreat.kit Go.Proofs.YtanoiiodnddkfaaGreat.bld Go.Proofs.YtanoiiodnddkfaaGreat.coded
set_option linter.unusedVariables false

theorem heap_set {w : World} {b : Nat} {cs : Array Value} {t : TypeId} (h : w.heap[b]? = some (.cells cs t (0, 0))) (i : Nat) (u : Value) : (w.setCell ⟨b, i, none⟩ u).heap[b]? = some (.cells (cs.setIfInBounds i u) t (0, 0)) := by
  simp [World.setCell, Array.getElem?_modify, h]
theorem own_set {w : World} {B e size n b i : Nat} {v u : Value} {xs : List Value} {cs : Array Value} {t : TypeId} (h : w.ownsRow B e size v n xs) (hb : w.heap[b]? = some (.cells cs t (0, 0))) (hne : e ≠ t) : (w.setCell ⟨b, i, none⟩ u).ownsRow B e size v n xs := by
  refine ⟨h.1, h.2.imp id ?_⟩
  rintro ⟨g, cap, cur, h1, h2, h3, h4⟩
  refine ⟨g, cap, cur, h1, h2, ?_, h4⟩
  rw [Below.heap_setCell w ⟨b, i, none⟩ u g (fun e' => ?_)]
  · exact h3
  · subst e'
    rw [hb] at h3
    injection h3 with h3
    injection h3 with _ h5
    exact hne h5.symm
theorem own_block {w : World} {B e size n g cap b : Nat} {xs : List Value} {cs : Array Value} {t : TypeId} (h : w.ownsRow B e size (.slice (some ⟨g, 0, none⟩) n cap) n xs) (hb : w.heap[b]? = some (.cells cs t (0, 0))) (hne : e ≠ t) : g ≠ b := by
  rcases h.2 with ⟨h0, _⟩ | ⟨g', cap', cur, h1, h2, h3, h4⟩
  · cases h0
  · cases h1
    rintro rfl
    rw [hb] at h3
    injection h3 with h3
    injection h3 with _ h5
    exact hne h5.symm
theorem below_drewN (B : Nat) (w : World) (n : Nat) : Below B w (w.drewN n) := ⟨rfl, rfl, rfl, Nat.le_refl _, fun _ _ => rfl⟩

theorem set_mid (x y : List UInt8) (a c : UInt8) : (x ++ a :: y).set x.length c = x ++ c :: y := by
  induction x with
  | nil => rfl
  | cons d r ih => simp [ih]
theorem byteCells_set (l : List UInt8) (i : Nat) (c : UInt8) : (Lib.byteCells l).set i (.int .u8 (c.toNat : Int)) = Lib.byteCells (l.set i c) := by
  simp [Lib.byteCells, List.map_set]

theorem own_cut {w : World} {B : Nat} {e : TypeId} {g cap n : Nat} {x y : List UInt8} (h : w.ownsRow B e 1 (.slice (some ⟨g, 0, none⟩) n cap) n (Lib.byteCells (x ++ y))) : w.ownsRow B e 1 (.slice (some ⟨g, 0, none⟩) x.length cap) x.length (Lib.byteCells x) := by
  have hl := h.1
  rw [Lib.byteCells_length, List.length_append] at hl
  refine ⟨by rw [Lib.byteCells_length, Nat.mul_one], .inr ?_⟩
  rcases h.2 with ⟨h0, _⟩ | ⟨g', cap', cur, h1, h2, h3, h4, h5, h6, h7⟩
  · cases h0
  · cases h1
    have hn : n = x.length + y.length := by omega
    refine ⟨g, cap, cur, rfl, h2, h3, by omega, h5, h6, ?_⟩
    have h8 : Lib.byteCells (x ++ y) = Lib.byteCells x ++ Lib.byteCells y := by simp [Lib.byteCells]
    rw [h8] at h7
    have h9 := congrArg (List.take x.length) h7
    rw [List.take_take, List.take_left' (Lib.byteCells_length x), Nat.mul_one, Nat.min_eq_left (by omega)] at h9
    rw [Nat.mul_one]; exact h9
end Go.Proofs.YtanoiiodnddkfaaGreat.reader
