/- name.Compare: walk. -/
import Derived.Test.YtjejmgdpjfdhjaaGreatDoorP5
import Derived.Test.YtjejmgdpjfdhjaaGreatDoorShelf
import Derived.Lib.Bytealg
import Derived.Deep.QuietTactic
import Derived.BigQuiet
import Derived.Deep.RegionHeld3
namespace Go.Proofs.YtjejmgdpjfdhjaaGreatDoor.ncmp
open Go.RowKit Go.Proofs.YtjejmgdpjfdhjaaGreatDoor.kit Go.Proofs.YtjejmgdpjfdhjaaGreatDoor.check Go.Proofs.YtjejmgdpjfdhjaaGreatDoor.nspec Go.Proofs.YtjejmgdpjfdhjaaGreatDoor.rsplit Go.Proofs.YtjejmgdpjfdhjaaGreatDoor.low Go.Proofs.YtjejmgdpjfdhjaaGreatDoor.refA Go.Proofs.YtjejmgdpjfdhjaaGreatDoor.nameA Go.Proofs.YtjejmgdpjfdhjaaGreatDoor.nameB Go.Proofs.YtjejmgdpjfdhjaaGreatDoor.nameL

/-- two rows of labels, the last one first -/
def cmpR : List Bs → List Bs → Int
  | [], [] => 0
  | [], _ :: _ => -1
  | _ :: _, [] => 1
  | p :: xs, q :: ys => if Lib.compareBytes p q = 0 then cmpR xs ys else Lib.compareBytes p q
def cmpS (a b : Bs) : Int := match split a, split b with | some x, some y => cmpR (x.map lowL).reverse (y.map lowL).reverse | _, _ => 0
theorem cmpS_yes {a b : Bs} {x y : List Bs} (ha : IsN a x) (hb : IsN b y) : cmpS a b = cmpR (x.map lowL).reverse (y.map lowL).reverse := by
  unfold cmpS; rw [split_iff.2 ha, split_iff.2 hb]
theorem cmpS_no1 {a b : Bs} (h : split a = none) : cmpS a b = 0 := by unfold cmpS; rw [h]
theorem cmpS_no2 {a b : Bs} (h : split b = none) : cmpS a b = 0 := by unfold cmpS; rw [h]; cases split a <;> rfl

theorem cmp_ge : ∀ a b : List UInt8, -1 ≤ Lib.compareBytes a b ∧ Lib.compareBytes a b ≤ 1
  | [], [] => by simp [Lib.compareBytes]
  | [], _ :: _ => by simp [Lib.compareBytes]
  | _ :: _, [] => by simp [Lib.compareBytes]
  | a :: u, b :: v => by
    simp only [Lib.compareBytes]
    split
    · omega
    · split
      · omega
      · exact cmp_ge u v
theorem rev_at {ls : List Bs} {k : Nat} {x : Bs} (h : ls[ls.length - k]? = some x) (h1 : 1 ≤ k) (h2 : k ≤ ls.length) : ls.reverse.drop (k - 1) = x :: ls.reverse.drop k := by
  have hk : k - 1 < ls.reverse.length := by simp; omega
  rw [List.drop_eq_getElem_cons hk]
  have e : k - 1 + 1 = k := by omega
  rw [e]
  congr 1
  obtain ⟨h3, h4⟩ := List.getElem?_eq_some_iff.1 h
  rw [List.getElem_reverse, ← h4]
  congr 1; omega
theorem cr_eq {xs ys xs' ys' : List Bs} {p q : Bs} {R : Int} (h : cmpR xs ys = R) (hx : xs = p :: xs') (hy : ys = q :: ys') (hc : Lib.compareBytes p q = 0) : cmpR xs' ys' = R := by
  subst hx; subst hy; rw [← h]; simp only [cmpR]; rw [if_pos hc]
theorem cr_ne {xs ys xs' ys' : List Bs} {p q : Bs} {R : Int} (h : cmpR xs ys = R) (hx : xs = p :: xs') (hy : ys = q :: ys') (hc : Lib.compareBytes p q ≠ 0) : Lib.compareBytes p q = R := by
  subst hx; subst hy; rw [← h]; simp only [cmpR]; rw [if_neg hc]
theorem cr_lt {xs ys : List Bs} {R : Int} (h : cmpR xs ys = R) (hx : xs = []) (hy : 0 < ys.length) : -1 = R := by
  subst hx; rw [← h]; cases ys with
  | nil => simp at hy
  | cons a b => rfl
theorem cr_gt {xs ys : List Bs} {R : Int} (h : cmpR xs ys = R) (hy : ys = []) (hx : 0 < xs.length) : 1 = R := by
  subst hy; rw [← h]; cases xs with
  | nil => simp at hx
  | cons a b => rfl
theorem cr_nil {xs ys : List Bs} {R : Int} (h : cmpR xs ys = R) (hy : ys = []) (hx : xs = []) : 0 = R := by
  subst hy; subst hx; rw [← h]; rfl

end Go.Proofs.YtjejmgdpjfdhjaaGreatDoor.ncmp
