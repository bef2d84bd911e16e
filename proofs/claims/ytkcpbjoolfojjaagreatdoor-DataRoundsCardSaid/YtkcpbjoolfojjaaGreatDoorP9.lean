/- gazetteerref1.coded, To32: walks. -/
import Derived.Test.YtkcpbjoolfojjaaGreatDoorP6
import Derived.Test.YtkcpbjoolfojjaaGreatDoorP8
import Derived.Laws.BytesArg
namespace Go.Proofs.YtkcpbjoolfojjaaGreatDoor.coded
open Go.RowKit Go.Proofs.YtkcpbjoolfojjaaGreatDoor.kit Go.Proofs.YtkcpbjoolfojjaaGreatDoor.bits Go.Proofs.YtkcpbjoolfojjaaGreatDoor.ints Go.Proofs.YtkcpbjoolfojjaaGreatDoor.bld Go.Proofs.YtkcpbjoolfojjaaGreatDoor.to32

theorem own_string {P : Program} {w : World} {base : Nat} {e : TypeId} {v : Value} {l : List UInt8} (h : w.ownsRow base e 1 v l.length (Lib.byteCells l)) (src dst e' : TypeId) (hs : P.underlying src = some (.slice e')) (he : P.underlying e' = some (.int .u8)) (hd : P.underlying dst = some .string) :
    (convert src dst v).run P w = .ok (.string ⟨l.toArray⟩) w := by
  rcases h.2 with ⟨rfl, h0⟩ | ⟨g, cap, cur, rfl, hb, hg, h1, h2, _, htake⟩
  · have : l = [] := List.eq_nil_of_length_eq_zero h0
    subst this
    exact run_convert_bytes_nil w src e' hs he _ _ dst hd
  · refine run_convert_bytes_back w src dst e' ⟨g, 0, none⟩ cap l hs he hd (fun j hj => ?_)
    exact h.cells (g := g) rfl j _ (by simp [Lib.byteCells, hj])

theorem bitsL_01 (d : List UInt8) : ∀ x ∈ bitsL d, x ≤ 1 := by
  have ht : ∀ n v : Nat, ∀ x ∈ tob v n, x ≤ 1 := by
    intro n v
    induction n with
    | zero => intro x hx; simp [tob] at hx
    | succ n ih =>
      intro x hx
      rw [tob, List.mem_cons] at hx
      rcases hx with rfl | hx
      · omega
      · exact ih x hx
  intro x hx
  obtain ⟨c, _, hc⟩ := List.mem_flatMap.1 hx
  exact ht _ _ x hc

end Go.Proofs.YtkcpbjoolfojjaaGreatDoor.coded
