/- The law NameParts: its walk. -/
import Derived.Test.YthblaldkpjilhaaStar
import Derived.Test.YthblaldkpjilhaaNameC
namespace Go.Proofs.Ythblaldkpjilhaa.nparts
open Go.RowKit Go.Proofs.Ythblaldkpjilhaa.kit Go.Proofs.Ythblaldkpjilhaa.check Go.Proofs.Ythblaldkpjilhaa.nspec Go.Proofs.Ythblaldkpjilhaa.rsplit Go.Proofs.Ythblaldkpjilhaa.rput Go.Proofs.Ythblaldkpjilhaa.refA Go.Proofs.Ythblaldkpjilhaa.refB Go.Proofs.Ythblaldkpjilhaa.refC Go.Proofs.Ythblaldkpjilhaa.nameA Go.Proofs.Ythblaldkpjilhaa.nameB Go.Proofs.Ythblaldkpjilhaa.nameL Go.Proofs.Ythblaldkpjilhaa.rcmp Go.Proofs.Ythblaldkpjilhaa.join Go.Proofs.Ythblaldkpjilhaa.star

/-- a row that may be written -/
def Wr (w : World) (a : Option Addr) (lo hi n : Nat) : Prop := n = 0 ∨ ∃ g cur, a = some ⟨g, 0, none⟩ ∧ lo ≤ g ∧ g < hi ∧ w.heap[g]? = some (.cells cur 9 (0, 0)) ∧ n ≤ cur.size
theorem Wr.below {w w' : World} {a : Option Addr} {lo hi n : Nat} (h : Wr w a lo hi n) (hB : Below w.heap.size w w') : Wr w' a lo hi n := by
  refine h.imp id ?_
  rintro ⟨g, cur, h1, h2, h3, h4, h5⟩
  exact ⟨g, cur, h1, h2, h3, (hB.block g (Array.getElem?_eq_some_iff.1 h4).1).trans h4, h5⟩
theorem Wr.at_ {w : World} {a : Option Addr} {lo hi n j : Nat} (h : Wr w a lo hi n) (hj : j < n) : ∃ g, a = some ⟨g, 0, none⟩ ∧ lo ≤ g ∧ g < hi ∧ (∃ u, w.cell? ⟨g, j, none⟩ = some u) ∧ w.frozen? ⟨g, j, none⟩ = false := by
  rcases h with rfl | ⟨g, cur, h1, h2, h3, h4, h5⟩
  · omega
  · exact ⟨g, h1, h2, h3, ⟨cur[j]'(by omega), by rw [Lib.cell_of_heap h4]; exact Array.getElem?_eq_getElem _⟩, Lib.frozen_of_heap h4 j⟩
theorem Wr.set {w : World} {g : Nat} {lo hi n : Nat} (h : Wr w (some ⟨g, 0, none⟩) lo hi n) (j : Nat) (v : Value) : Wr (w.setCell ⟨g, j, none⟩ v) (some ⟨g, 0, none⟩) lo hi n := by
  refine h.imp id ?_
  rintro ⟨g', cur, h1, h2, h3, h4, h5⟩
  cases h1
  exact ⟨g, cur.set! j v, rfl, h2, h3, by simp [World.setCell, Array.getElem?_modify, h4], by simpa using h5⟩
theorem rd_set {w : World} {a : Option Addr} {base g : Nat} {ls : List Bs} (h : Rd w a base ls) (hg : g < base) (j : Nat) (v : Value) : Rd (w.setCell ⟨g, j, none⟩ v) a base ls := by
  intro i x hx
  obtain ⟨g', o, h1, h2, h3, h4⟩ := h i x hx
  refine ⟨g', o, h1, h2, by simpa using h3, ?_⟩
  rw [World.cell?_setCell_other _ _ _ _ (by intro e; injection e with e1 _; omega)]; exact h4
theorem row_rd {w : World} {base : Nat} {v : Value} {ls : List Bs} (h : w.ownsRow base 9 1 v ls.length (ls.map strV)) : ∃ a c, v = .slice a ls.length c ∧ ls.length ≤ c ∧ Rd w a 0 ls ∧ Wr w a base w.heap.size ls.length := by
  obtain ⟨a, c, h1, h2⟩ := Rd.of_own h
  rcases h.2 with ⟨rfl, h0⟩ | ⟨g, cap, cur, rfl, hb, hg, hn, _, hcs, htake⟩
  · injection h1 with e1 e2 e3
    exact ⟨a, c, by rw [← e1, ← e3, h0], by omega, h2.mono (Nat.zero_le _), .inl h0⟩
  · injection h1 with e1 e2 e3
    exact ⟨a, c, by rw [← e1, ← e3], by omega, h2.mono (Nat.zero_le _), .inr ⟨g, cur, e1.symm, hb, (Array.getElem?_eq_some_iff.1 hg).1, hg, by omega⟩⟩

theorem src_of {w : World} {a : Option Addr} {c m : Nat} {ls : List Bs} (hr : Rd w a 0 ls) (_hm : m = ls.length) (hn : a = none → m = 0 ∧ c = 0) :
    (a = none ∧ m = 0 ∧ c = 0) ∨ ∃ ad, a = some ad ∧ ∀ (j : Nat) (u : Value), (ls.map strV)[j]? = some u → w.cell? (ad.add j) = some u := by
  cases a with
  | none => exact .inl ⟨rfl, hn rfl⟩
  | some ad =>
    refine .inr ⟨ad, rfl, fun j u hu => ?_⟩
    rw [List.getElem?_map] at hu
    cases hx : ls[j]? with
    | none => rw [hx] at hu; simp at hu
    | some x =>
      rw [hx] at hu
      obtain ⟨g, o, h1, _, _, h4⟩ := hr j x hx
      cases h1
      have e : (⟨g, o, none⟩ : Addr).add j = ⟨g, o + j, none⟩ := by unfold Addr.add; split <;> simp_all
      rw [e, h4]; simpa using hu
theorem njoin_n (a : Option Addr) (c m : Nat) (ls : List Bs) (w : World) (hr : Rd w a 0 ls) (hm : m = ls.length) (hl : m ≤ 1048576) (hc : m ≤ c) :
    Calls Try.prog 21 #[.slice a m c] w fun e w' => e = RetJ (joinS ls) ∧ Below w.heap.size w w' := by
  subst hm; exact njoin_any a c ls w hr hl hc
theorem rd_pre {w : World} {a : Option Addr} {base : Nat} {x y : List Bs} (h : Rd w a base (x ++ y)) : Rd w a base x := by
  intro j p hp
  exact h j p (by rw [List.getElem?_append_left (List.getElem?_eq_some_iff.1 hp).1]; exact hp)

end Go.Proofs.Ythblaldkpjilhaa.nparts
