/- A list of texts handed in: opened. -/
import Derived.Test.YtflijhodlimjoaaGreatK4
import Derived.SliceStrings
import Derived.Carry
import Derived.ChangeOld
import Derived.ProofKit
namespace Go.Proofs.YtflijhodlimjoaaGreat.list
open Go.ChangeShapes Go.WideShapes Go.RowKit Go.Proofs.YtflijhodlimjoaaGreat.kit Go.Proofs.YtflijhodlimjoaaGreat.nspec Go.Proofs.YtflijhodlimjoaaGreat.rsplit

theorem bulk_strs {H : Type} : ∀ zs : List ByteArray, zs.length ≤ Rows.uptoBulkAll (strs (H := H) zs) ∧ ∀ z ∈ zs, z.size + 1 ≤ Rows.uptoBulkAll (strs (H := H) zs)
  | [] => by simp [strs]
  | z :: r => by
    obtain ⟨h1, h2⟩ := bulk_strs (H := H) r
    have e : Rows.uptoBulkAll (strs (H := H) (z :: r)) = (z.data.toList.length + 1) + Rows.uptoBulkAll (strs (H := H) r) := rfl
    have e2 : z.data.toList.length = z.size := size_len z
    rw [e, e2]
    refine ⟨by rw [List.length_cons]; omega, fun y hy => ?_⟩
    rcases List.mem_cons.1 hy with rfl | hy
    · omega
    · have := h2 y hy; omega
theorem cell_lt {w : World} {a : Addr} {v : Value} (h : w.cell? a = some v) : a.block < w.heap.size := by
  rcases Nat.lt_or_ge a.block w.heap.size with h' | h'
  · exact h'
  · simp [World.cell?, Array.getElem?_eq_none h'] at h
theorem open_list {H : Type} {enc : TypeId × Value → H} {w : World} {fuel : Nat} {a : Option Addr} {len cap : Nat} {d : DataW H} {p : List MemPlace}
    (h : DataW.trod enc Tryz.prog w 0 (fun _ => true) true fuel 47 (Value.slice a len cap).cells.toList = some (d, p)) :
    ∃ ls : List Bs, len = ls.length ∧ Rd w a 0 ls ∧ (a = none → len = 0 ∧ cap = 0) ∧ len ≤ cap ∧ len ≤ Rows.uptoBulk d ∧ ∀ x ∈ ls, x.length ≤ Rows.uptoBulk d := by
  rcases open_strings Tryz.underlying47 Tryz.underlying9 (by kernel_rfl) h with ⟨hcs, hx⟩ | ⟨ad, len', cap', zs, hcs, _, hl, hm, hz, hx, hcell, hwz⟩
  · simp [Value.cells] at hcs
    obtain ⟨rfl, rfl, rfl⟩ := hcs
    exact ⟨[], rfl, Rd.nil _ _ _, fun _ => ⟨rfl, rfl⟩, Nat.le_refl _, Nat.zero_le _, by simp⟩
  · simp [Value.cells] at hcs
    obtain ⟨rfl, rfl, rfl⟩ := hcs
    simp only [Prod.mk.injEq] at hx
    obtain ⟨rfl, rfl⟩ := hx
    simp only [if_true] at hz
    have hb := bulk_strs (H := H) (zs.take len)
    have hbe : Rows.uptoBulk (DataW.slice (strs (H := H) (zs.take len)) (strs (zs.drop len))) = Rows.uptoBulkAll (strs (H := H) (zs.take len)) + Rows.uptoBulkAll (strs (H := H) (zs.drop len)) + 1 := rfl
    have hzl : (zs.take len).length = len := by rw [List.length_take]; omega
    refine ⟨(zs.take len).map (fun z => z.data.toList), by rw [List.length_map, hzl], ?_, (fun h => by cases h), hl, ?_, ?_⟩
    · intro j x hx
      rw [List.getElem?_map] at hx
      obtain ⟨z, hz1, rfl⟩ := Option.map_eq_some_iff.1 hx
      have hj : j < len := by have := (List.getElem?_eq_some_iff.1 hz1).1; omega
      have hc := hcell j (by omega)
      obtain ⟨g, o, sp⟩ := ad
      have hspot : sp = none := by simpa [Addr.add] using World.cell?_spot (hcell 0 (by omega))
      subst hspot
      have e : (⟨g, o, none⟩ : Addr).add j = ⟨g, o + j, none⟩ := by unfold Addr.add; split <;> simp_all
      rw [e] at hc
      refine ⟨g, o, rfl, Nat.zero_le _, cell_lt hc, ?_⟩
      rw [hc]
      have hzz : zs[j]? = some z := by rw [List.getElem?_take_of_lt hj] at hz1; exact hz1
      rw [List.getD_eq_getElem?_getD, hzz]
      rfl
    · rw [hbe]; omega
    · intro x hx
      obtain ⟨z, hz1, rfl⟩ := List.mem_map.1 hx
      have := hb.2 z hz1
      rw [hbe, size_len]; omega
end Go.Proofs.YtflijhodlimjoaaGreat.list
