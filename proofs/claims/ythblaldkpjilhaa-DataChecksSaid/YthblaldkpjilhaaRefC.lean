/- The reference's Graft: walk. -/
import Derived.Test.YthblaldkpjilhaaNameB
namespace Go.Proofs.Ythblaldkpjilhaa.refC
open Go.RowKit Go.Proofs.Ythblaldkpjilhaa.kit Go.Proofs.Ythblaldkpjilhaa.nspec Go.Proofs.Ythblaldkpjilhaa.rsplit Go.Proofs.Ythblaldkpjilhaa.rput Go.Proofs.Ythblaldkpjilhaa.low Go.Proofs.Ythblaldkpjilhaa.refA Go.Proofs.Ythblaldkpjilhaa.refB Go.Proofs.Ythblaldkpjilhaa.nameB

/-- the row of cells that Split has made can be the source of an append -/
theorem SV.src {w : World} {g : Nat} {ls : List Bs} (m : Nat) (hc : ∀ (j : Nat) (x : Bs), ls[j]? = some x → w.cell? ⟨g, j, none⟩ = some (strV x)) :
    ∀ (j : Nat) (u : Value), ((ls.take m).map strV)[j]? = some u → w.cell? ((⟨g, 0, none⟩ : Addr).add j) = some u := by
  intro j u hu
  rw [List.getElem?_map] at hu
  cases hx : (ls.take m)[j]? with
  | none => rw [hx] at hu; simp at hu
  | some x =>
    rw [hx] at hu
    have hx' : ls[j]? = some x := by
      rw [List.getElem?_take] at hx; split at hx
      · exact hx
      · simp at hx
    have : u = strV x := by simpa using hu.symm
    subst this
    rw [addr_add]; exact hc j x hx'
theorem one_str (ls : List Bs) : ∀ u ∈ ls.map strV, u.oneCell' = true := by
  intro u hu; obtain ⟨x, _, rfl⟩ := List.mem_map.1 hu; rfl

def graftS (n f t : Bs) : Bs × Int :=
  match split n, split f, split t with
  | some l, some x, some y => if withinS n f then (if 255 < (put (l.take (l.length - x.length) ++ y)).length then ([], 4) else (put (l.take (l.length - x.length) ++ y), 0)) else ([], 5)
  | _, _, _ => ([], 1)
theorem ret_se {a : Bs} {b : Int} {p : Bs × Int} (h : (a, b) = p) : Ending.returned (.tuple #[.string ⟨a.toArray⟩, .int .i64 b]) = .returned (.tuple #[.string ⟨p.1.toArray⟩, .int .i64 p.2]) := by subst h; rfl

/-- append onto a nil list, then onto that, and Put: the part of Graft behind its tests -/
theorem within_len {n f : Bs} {l x : List Bs} (hn : IsN n l) (hf : IsN f x) (h : withinS n f = true) : x.length ≤ l.length ∧ (l.drop (l.length - x.length)).map lowL = x.map lowL := by
  have key : ∀ (g k : Nat), wF n f g k = true → ∃ j : Nat, equalS (tailS n (j : Int)) f = true := by
    intro g
    induction g with
    | zero => intro k h; simp [wF] at h
    | succ g ih =>
      intro k h
      simp only [wF] at h
      by_cases he : equalS (tailS n (k : Int)) f = true
      · exact ⟨k, he⟩
      · rw [if_neg he] at h; exact ih _ h
  obtain ⟨j, hj⟩ := key _ _ h
  rw [tailS_yes hn] at hj
  by_cases hjl : (0 : Int) ≤ (j : Int) ∧ (j : Int) ≤ (l.length : Int)
  · rw [if_pos hjl, Int.toNat_natCast] at hj
    have hd := isN_put (okL_drop (l.length - j) hn.2.1) (by have := room_drop l (l.length - j); have := isN_room hn; omega)
    have := hj
    unfold equalS at this
    rw [split_iff.2 hd, split_iff.2 hf] at this
    simp only [decide_eq_true_eq] at this
    have hlen := congrArg List.length this
    simp only [List.length_map, List.length_drop] at hlen
    have hjx : j = x.length := by omega
    subst hjx
    exact ⟨by omega, this⟩
  · rw [if_neg hjl] at hj
    have : split [] = none := rfl
    rw [equal_no1 this] at hj; simp at hj

theorem split_gen (s : ByteArray) (w : World) (hs : s.size ≤ 1099511627776) :
    Calls Try.prog 125 #[.string s] w fun e w' => ∃ a n c, e = .returned (.tuple #[.slice a n c, .bool (isB s)]) ∧ Below w.heap.size w w' := by
  rcases isB_or s with ⟨ls, h⟩ | h
  · rw [isB_yes h]
    refine (split_yes s ls w h).mono ?_
    rintro e w' ⟨v, rfl, hsv, hB⟩
    obtain ⟨a, c, rfl, _⟩ := hsv.rd
    exact ⟨a, _, c, rfl, hB⟩
  · rw [isB_no h]
    exact split_no s w hs h
theorem graftS_bad {n f t : Bs} (h : ((split n).isSome && (split f).isSome && (split t).isSome) = false) : graftS n f t = ([], 1) := by
  unfold graftS
  cases hn : split n with
  | none => rfl
  | some l => cases hf : split f with
    | none => rfl
    | some x => cases ht : split t with
      | none => rfl
      | some y => rw [hn, hf, ht] at h; simp at h
end Go.Proofs.Ythblaldkpjilhaa.refC
