/- Lists of timed keys, and of keys of a plan, in memory; both are held against their like. -/
import Derived.Test.YtabmcambgdnaiaaDoorKit
import Derived.BigQuiet
import Derived.Deep.QuietTactic
namespace Go.Proofs.YtabmcambgdnaiaaDoor.timed
open Go.RowKit Go.Proofs.YtabmcambgdnaiaaDoor.kit
set_option linter.unusedVariables false

theorem bel_drewN {B : Nat} {a w : World} (h : Below B a w) (q : Nat) : Below B a (w.drewN q) := ⟨h.os, h.tape, h.output, h.size, h.block⟩
/-- a key with its times -/
structure Tm where
  f : Int
  m : Int
  e : Int
  s : Int
  p : Int
  a : Int
  r : Int
  v : Int
deriving DecidableEq
def Tm.cells (x : Tm) : List Value := [.int .i64 x.f, .int .i64 x.m, .int .i64 x.e, .int .i64 x.s, .int .i64 x.p, .int .i64 x.a, .int .i64 x.r, .int .i64 x.v]
/-- a key of a plan -/
structure Pk where
  f : Int
  m : Int
  e : Int
  s : Int
  on : Bool
deriving DecidableEq
def Pk.cells (x : Pk) : List Value := [.int .i64 x.f, .int .i64 x.m, .int .i64 x.e, .int .i64 x.s, .bool x.on]

/-- rows of so many cells can be read from address a on -/
def RdC (w : World) (a : Option Addr) (n : Nat) (ls : List (List Value)) : Prop :=
  ∀ (j : Nat) (x : List Value), ls[j]? = some x → x.length = n ∧ ∃ g o, a = some ⟨g, o, none⟩ ∧ g < w.heap.size ∧ ∀ i u, x[i]? = some u → w.cell? ⟨g, o + j * n + i, none⟩ = some u
theorem RdC.below {w w' : World} {a : Option Addr} {n B : Nat} {ls : List (List Value)} (h : RdC w a n ls) (hB : Below B w w') (hz : B = w.heap.size) : RdC w' a n ls := by
  intro j x hx
  obtain ⟨h0, g, o, h1, h3, h4⟩ := h j x hx
  exact ⟨h0, g, o, h1, Nat.lt_of_lt_of_le h3 hB.size, fun i u hu => (hB.cell (p := ⟨g, o + j * n + i, none⟩) (by rw [hz]; exact h3)).trans (h4 i u hu)⟩
theorem RdC.nil (w : World) (a : Option Addr) (n : Nat) : RdC w a n [] := by intro j x h; simp at h

def AtT (w : World) (g o : Nat) (x : Tm) : Prop :=
  w.cell? ⟨g, o, none⟩ = some (.int .i64 x.f) ∧ w.cell? ⟨g, o + 1, none⟩ = some (.int .i64 x.m) ∧ w.cell? ⟨g, o + 2, none⟩ = some (.int .i64 x.e) ∧ w.cell? ⟨g, o + 3, none⟩ = some (.int .i64 x.s) ∧
  w.cell? ⟨g, o + 4, none⟩ = some (.int .i64 x.p) ∧ w.cell? ⟨g, o + 5, none⟩ = some (.int .i64 x.a) ∧ w.cell? ⟨g, o + 6, none⟩ = some (.int .i64 x.r) ∧ w.cell? ⟨g, o + 7, none⟩ = some (.int .i64 x.v)
theorem RdC.at_t {w : World} {a : Option Addr} {L : List Tm} (h : RdC w a 8 (L.map Tm.cells)) {j : Nat} {x : Tm} (hj : L[j]? = some x) : ∃ g o, a = some ⟨g, o, none⟩ ∧ g < w.heap.size ∧ AtT w g (o + j * 8) x := by
  obtain ⟨_, g, o, h1, h2, h3⟩ := h j x.cells (by rw [List.getElem?_map, hj]; rfl)
  exact ⟨g, o, h1, h2, h3 0 _ rfl, h3 1 _ rfl, h3 2 _ rfl, h3 3 _ rfl, h3 4 _ rfl, h3 5 _ rfl, h3 6 _ rfl, h3 7 _ rfl⟩
theorem AtT.below {w w' : World} {g o B : Nat} {x : Tm} (h : AtT w g o x) (hB : Below B w w') (hg : g < B) : AtT w' g o x := by
  obtain ⟨h0, h1, h2, h3, h4, h5, h6, h7⟩ := h
  exact ⟨(hB.cell (p := ⟨g, _, none⟩) hg).trans h0, (hB.cell (p := ⟨g, _, none⟩) hg).trans h1, (hB.cell (p := ⟨g, _, none⟩) hg).trans h2, (hB.cell (p := ⟨g, _, none⟩) hg).trans h3, (hB.cell (p := ⟨g, _, none⟩) hg).trans h4, (hB.cell (p := ⟨g, _, none⟩) hg).trans h5, (hB.cell (p := ⟨g, _, none⟩) hg).trans h6, (hB.cell (p := ⟨g, _, none⟩) hg).trans h7⟩
def AtK (w : World) (g o : Nat) (x : Pk) : Prop :=
  w.cell? ⟨g, o, none⟩ = some (.int .i64 x.f) ∧ w.cell? ⟨g, o + 1, none⟩ = some (.int .i64 x.m) ∧ w.cell? ⟨g, o + 2, none⟩ = some (.int .i64 x.e) ∧ w.cell? ⟨g, o + 3, none⟩ = some (.int .i64 x.s) ∧ w.cell? ⟨g, o + 4, none⟩ = some (.bool x.on)
theorem RdC.at_k {w : World} {a : Option Addr} {L : List Pk} (h : RdC w a 5 (L.map Pk.cells)) {j : Nat} {x : Pk} (hj : L[j]? = some x) : ∃ g o, a = some ⟨g, o, none⟩ ∧ g < w.heap.size ∧ AtK w g (o + j * 5) x := by
  obtain ⟨_, g, o, h1, h2, h3⟩ := h j x.cells (by rw [List.getElem?_map, hj]; rfl)
  exact ⟨g, o, h1, h2, h3 0 _ rfl, h3 1 _ rfl, h3 2 _ rfl, h3 3 _ rfl, h3 4 _ rfl⟩
theorem AtK.below {w w' : World} {g o B : Nat} {x : Pk} (h : AtK w g o x) (hB : Below B w w') (hg : g < B) : AtK w' g o x := by
  obtain ⟨h0, h1, h2, h3, h4⟩ := h
  exact ⟨(hB.cell (p := ⟨g, _, none⟩) hg).trans h0, (hB.cell (p := ⟨g, _, none⟩) hg).trans h1, (hB.cell (p := ⟨g, _, none⟩) hg).trans h2, (hB.cell (p := ⟨g, _, none⟩) hg).trans h3, (hB.cell (p := ⟨g, _, none⟩) hg).trans h4⟩

end Go.Proofs.YtabmcambgdnaiaaDoor.timed
