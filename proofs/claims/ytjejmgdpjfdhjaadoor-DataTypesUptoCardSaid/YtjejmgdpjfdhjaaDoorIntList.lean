/- A list of ints handed in: opened. -/
import Derived.Test.YtjejmgdpjfdhjaaDoorSetW
import Derived.ChangeSlices
import Derived.Carry
import Derived.ChangeOld
import Derived.ProofKit
namespace Go.Proofs.YtjejmgdpjfdhjaaDoor.intList
open Go.ChangeShapes Go.WideShapes Go.RowKit Go.Proofs.YtjejmgdpjfdhjaaDoor.kit Go.Proofs.YtjejmgdpjfdhjaaDoor.setW
set_option linter.unusedVariables false

theorem bulk_lits {H : Type} (k : IntKind) : ∀ zs : List Int, zs.length ≤ Rows.uptoBulkAll (lits (H := H) k zs)
  | [] => by simp [lits]
  | z :: r => by
    have h1 := bulk_lits (H := H) k r
    have e : Rows.uptoBulkAll (lits (H := H) k (z :: r)) = Rows.uptoBulk (DataW.lit (H := H) (.int k z)) + Rows.uptoBulkAll (lits (H := H) k r) := rfl
    have e2 : Rows.uptoBulk (DataW.lit (H := H) (.int k z)) = 1 := rfl
    rw [e, e2, List.length_cons]; omega
theorem cell_lt {w : World} {a : Addr} {v : Value} (h : w.cell? a = some v) : a.block < w.heap.size := by
  rcases Nat.lt_or_ge a.block w.heap.size with h' | h'
  · exact h'
  · simp [World.cell?, Array.getElem?_eq_none h'] at h
theorem open_intlist {H : Type} {enc : TypeId × Value → H} {w : World} {fuel : Nat} {a : Option Addr} {len cap : Nat} {d : DataW H} {p : List MemPlace}
    (h : DataW.trod enc Tryd.prog w 0 (fun _ => true) true fuel 22 (Value.slice a len cap).cells.toList = some (d, p)) :
    ∃ ls : List Int, len = ls.length ∧ RdI w a ls ∧ (a = none → len = 0) ∧ len ≤ Rows.uptoBulk d ∧ ∀ x ∈ ls, (Lit.int .i64 x).wf = true := by
  rcases open_ints Tryd.underlying22 Tryd.underlying3 (by kernel_rfl) h with ⟨hcs, hx⟩ | ⟨ad, len', cap', zs, hcs, _, hl, hm, hz, hx, hcell, hwz⟩
  · simp [Value.cells] at hcs
    obtain ⟨rfl, rfl, rfl⟩ := hcs
    exact ⟨[], rfl, by intro j x h; simp at h, fun _ => rfl, Nat.zero_le _, by simp⟩
  · simp [Value.cells] at hcs
    obtain ⟨rfl, rfl, rfl⟩ := hcs
    simp only [Prod.mk.injEq] at hx
    obtain ⟨rfl, rfl⟩ := hx
    simp only [if_true] at hz
    have hb := bulk_lits (H := H) .i64 (zs.take len)
    have hbe : Rows.uptoBulk (DataW.slice (lits (H := H) .i64 (zs.take len)) (lits .i64 (zs.drop len))) = Rows.uptoBulkAll (lits (H := H) .i64 (zs.take len)) + Rows.uptoBulkAll (lits (H := H) .i64 (zs.drop len)) + 1 := rfl
    have hzl : (zs.take len).length = len := by rw [List.length_take]; omega
    refine ⟨zs.take len, hzl.symm, ?_, (fun h => by cases h), ?_, fun x hx => hwz x (List.mem_of_mem_take hx)⟩
    · intro j x hx
      have hj : j < len := by have := (List.getElem?_eq_some_iff.1 hx).1; omega
      have hc := hcell j (by omega)
      obtain ⟨g, o, sp⟩ := ad
      have hspot : sp = none := by simpa [Addr.add] using World.cell?_spot (hcell 0 (by omega))
      subst hspot
      have e : (⟨g, o, none⟩ : Addr).add j = ⟨g, o + j, none⟩ := by unfold Addr.add; split <;> simp_all
      rw [e] at hc
      refine ⟨g, o, rfl, cell_lt hc, ?_⟩
      rw [hc]
      rw [List.getElem?_take_of_lt hj] at hx
      rw [List.getD_eq_getElem?_getD, hx]; rfl
    · rw [hbe]; omega
end Go.Proofs.YtjejmgdpjfdhjaaDoor.intList
