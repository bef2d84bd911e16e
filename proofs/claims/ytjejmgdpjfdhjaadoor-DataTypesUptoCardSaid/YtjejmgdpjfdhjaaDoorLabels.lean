/- The iterator name.labels: its contract. -/
import Derived.Test.YtjejmgdpjfdhjaaDoorKit
import Derived.RangeFuncNested
import Derived.RangeFuncBound
import Derived.RangeFuncCalls
import Derived.RangeFuncLeaves
import Derived.RangeFuncBox
import Derived.Shelf.Abstract
import Derived.Shelf.RegionOpen
import Derived.OwnWalkIn
import Derived.TacticsInMore
import Derived.LoopNIn
import Derived.LoopIn
import Derived.Sort.LoopGhostIn
namespace Go.Proofs.YtjejmgdpjfdhjaaDoor.labels
open Go.RowKit Go.Shelf Go.Proofs.YtjejmgdpjfdhjaaDoor.kit
attribute [local go_sem] Oper.semAt_some

/-- what the iterator hands over: places and labels -/
def pairsF : Nat → Nat → List UInt8 → List (Nat × ByteArray)
  | 0, _, _ => []
  | _ + 1, _, [] => []
  | f + 1, at', c :: r => if 63 < c.toNat ∨ r.length < c.toNat then [] else (at', ⟨(r.take c.toNat).toArray⟩) :: (if c.toNat = 0 then [] else pairsF f (at' + 1 + c.toNat) (r.drop c.toNat))
def pairs (s : ByteArray) : List (Nat × ByteArray) := pairsF s.size 0 s.data.toList

abbrev Lab (N : Nat) := { x : Nat × ByteArray // x.1 ≤ N ∧ x.2.size ≤ 63 }
def raw {N : Nat} (l : List (Lab N)) : List (Nat × ByteArray) := l.map (·.val)
theorem raw_snoc {N : Nat} (l : List (Lab N)) (x : Lab N) : raw (l ++ [x]) = raw l ++ [x.val] := by simp [raw]

theorem pf_end {f k : Nat} {l : List UInt8} {p R : List (Nat × ByteArray)} (h : p ++ pairsF f k l = R) (hl : l = []) : p = R := by
  subst hl; cases f <;> simpa [pairsF] using h
theorem pf_bad {f k : Nat} {l r : List UInt8} {c : UInt8} {p R : List (Nat × ByteArray)} (h : p ++ pairsF f k l = R) (hf : 0 < f) (hl : l = c :: r) (hc : 63 < c.toNat ∨ r.length < c.toNat) : p = R := by
  obtain ⟨g, rfl⟩ : ∃ g, f = g + 1 := ⟨f - 1, by omega⟩
  subst hl; simp only [pairsF] at h; rw [if_pos hc] at h; simpa using h
theorem pf_zero {f k : Nat} {l r : List UInt8} {c : UInt8} {x : ByteArray} {p R : List (Nat × ByteArray)} (h : p ++ pairsF f k l = R) (hf : 0 < f) (hl : l = c :: r) (hc : ¬ (63 < c.toNat ∨ r.length < c.toNat)) (h0 : c.toNat = 0) (hx : x.data.toList = r.take c.toNat) : p ++ [(k, x)] = R := by
  obtain ⟨g, rfl⟩ : ∃ g, f = g + 1 := ⟨f - 1, by omega⟩
  subst hl; simp only [pairsF] at h; rw [if_neg hc, if_pos h0] at h
  have : x = ⟨(r.take c.toNat).toArray⟩ := ba_ext hx
  rw [this]; exact h
theorem pf_next {f k : Nat} {l r : List UInt8} {c : UInt8} {x : ByteArray} {p R : List (Nat × ByteArray)} (h : p ++ pairsF f k l = R) (hf : 0 < f) (hl : l = c :: r) (hc : ¬ (63 < c.toNat ∨ r.length < c.toNat)) (h0 : c.toNat ≠ 0) (hx : x.data.toList = r.take c.toNat) : (p ++ [(k, x)]) ++ pairsF (f - 1) (k + 1 + c.toNat) (r.drop c.toNat) = R := by
  obtain ⟨g, rfl⟩ : ∃ g, f = g + 1 := ⟨f - 1, by omega⟩
  subst hl; simp only [pairsF] at h; rw [if_neg hc, if_neg h0] at h
  have : x = ⟨(r.take c.toNat).toArray⟩ := ba_ext hx
  rw [this]; simpa using h
theorem pf_part {f k : Nat} {l r : List UInt8} {c : UInt8} {x : ByteArray} {p R : List (Nat × ByteArray)} (h : p ++ pairsF f k l = R) (hf : 0 < f) (hl : l = c :: r) (hc : ¬ (63 < c.toNat ∨ r.length < c.toNat)) (hx : x.data.toList = r.take c.toNat) : p ++ [(k, x)] <+: R := by
  by_cases h0 : c.toNat = 0
  · rw [pf_zero h hf hl hc h0 hx]; exact List.prefix_rfl
  · rw [← pf_next h hf hl hc h0 hx]; exact List.prefix_append _ _
/-- the fuel is always enough -/
theorem pf_fuel : ∀ (f g k : Nat) (l : List UInt8), l.length ≤ f → l.length ≤ g → pairsF f k l = pairsF g k l
  | 0, g, k, l, h1, h2 => by
    have : l = [] := List.eq_nil_of_length_eq_zero (by omega)
    subst this; cases g <;> rfl
  | f + 1, 0, k, l, h1, h2 => by
    have : l = [] := List.eq_nil_of_length_eq_zero (by omega)
    subst this; rfl
  | f + 1, g + 1, k, [], h1, h2 => rfl
  | f + 1, g + 1, k, c :: r, h1, h2 => by
    simp only [pairsF, List.length_cons] at h1 h2 ⊢
    rw [pf_fuel f g _ (r.drop c.toNat) (by simp; omega) (by simp; omega)]

theorem below_putObj {B D : Nat} {a W : World} (h : Below B a W) (hD : B ≤ D) (o : Obj) : Below B a (W.putObj D o) :=
  h.trans ⟨rfl, rfl, rfl, by simp, fun k hk => World.putObj_heap_other (by omega)⟩
theorem boxed_putObj {W : World} {B D : Nat} {t : TypeId} {v : Value} (h : Boxed W B t v) (hD : B ≠ D) (o : Obj) : Boxed (W.putObj D o) B t v :=
  h.kept (grownBy_putObj' W D o) (fun e => hD (by cases e; rfl))
/-- a round leaves the iterator's own box as it is -/
def KeepBox (Bs : Nat) (W W' : World) : Prop := W'.cell? ⟨Bs, 0, none⟩ = W.cell? ⟨Bs, 0, none⟩
theorem keepBox_t (Bs : Nat) {A B C : World} (h : KeepBox Bs A B) (k : KeepBox Bs B C) : KeepBox Bs A C := Eq.trans k h
theorem keepBox_b {Bs : Nat} (W : World) (l : Nat) (o' : Obj) (h : Bs ≠ l) : KeepBox Bs W (W.putObj l o') :=
  World.cell?_of_block (World.putObj_heap_other (w := W) (r := l) (k := Bs) h)

end Go.Proofs.YtjejmgdpjfdhjaaDoor.labels
