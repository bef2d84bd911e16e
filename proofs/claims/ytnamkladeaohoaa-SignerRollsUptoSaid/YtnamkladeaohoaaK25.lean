/- signer.edges: walk. -/
import Derived.Test.YtnamkladeaohoaaK2
import Derived.Test.YtnamkladeaohoaaK24
import Derived.Lib.SlicesCompact
namespace Go.Proofs.Ytnamkladeaohoaa.edges
open Go.RowKit Go.Proofs.Ytnamkladeaohoaa.kit Go.Proofs.Ytnamkladeaohoaa.timed Go.Proofs.Ytnamkladeaohoaa.safeP Go.Proofs.Ytnamkladeaohoaa.setP
set_option linter.unusedVariables false

theorem sorted_at {zs : List Int} (h : zs.Pairwise (· ≤ ·)) {i j : Nat} (hij : i ≤ j) (hj : j < zs.length) : zs.toArray[i]! ≤ zs.toArray[j]! := by
  have hi : i < zs.length := by omega
  rw [getElem!_pos zs.toArray i (by simpa using hi), getElem!_pos zs.toArray j (by simpa using hj)]
  simp only [List.getElem_toArray]
  rcases Nat.lt_or_ge i j with e | e
  · exact (List.pairwise_iff_getElem.1 h) i j hi hj e
  · have : i = j := by omega
    subst this; exact Int.le_refl _
theorem compact_up {zs : List Int} (h : zs.Pairwise (· ≤ ·)) : ∀ m, m ≤ zs.length → (Lib.compactUpTo zs.toArray m).Pairwise (· < ·) ∧ (∀ x ∈ Lib.compactUpTo zs.toArray m, ∃ j, j < m ∧ zs.toArray[j]! = x) ∧ ∀ j, j < m → zs.toArray[j]! ∈ Lib.compactUpTo zs.toArray m
  | 0, _ => ⟨List.Pairwise.nil, fun x hx => (by cases hx), fun j hj => (by omega)⟩
  | m + 1, hm => by
    obtain ⟨h1, h2, h3⟩ := compact_up h m (by omega)
    rw [Lib.compactUpTo_succ]
    by_cases hk : Lib.keeps zs.toArray m = true
    · rw [if_pos hk]
      have hlt : ∀ x ∈ Lib.compactUpTo zs.toArray m, x < zs.toArray[m]! := by
        intro x hx
        obtain ⟨j, hj, rfl⟩ := h2 x hx
        have hk' : m = 0 ∨ zs.toArray[m]! ≠ zs.toArray[m - 1]! := of_decide_eq_true hk
        have a1 := sorted_at h (show j ≤ m - 1 by omega) (show m - 1 < zs.length by omega)
        have a2 := sorted_at h (show m - 1 ≤ m by omega) (show m < zs.length by omega)
        rcases hk' with e | e
        · omega
        · omega
      refine ⟨List.pairwise_append.2 ⟨h1, List.pairwise_singleton _ _, fun x hx y hy => ?_⟩, fun x hx => ?_, fun j hj => ?_⟩
      · simp only [List.mem_singleton] at hy; subst hy; exact hlt x hx
      · rcases List.mem_append.1 hx with e | e
        · obtain ⟨j, hj, e2⟩ := h2 x e; exact ⟨j, by omega, e2⟩
        · simp only [List.mem_singleton] at e; exact ⟨m, by omega, e.symm⟩
      · rcases Nat.lt_or_ge j m with e | e
        · exact List.mem_append_left _ (h3 j e)
        · have : j = m := by omega
          subst this; exact List.mem_append_right _ (List.mem_singleton.2 rfl)
    · rw [if_neg hk, List.append_nil]
      have hk' : ¬ (m = 0 ∨ zs.toArray[m]! ≠ zs.toArray[m - 1]!) := fun e => hk (decide_eq_true e)
      have e0 : m ≠ 0 := fun e => hk' (.inl e)
      have e1 : zs.toArray[m]! = zs.toArray[m - 1]! := by
        by_cases e : zs.toArray[m]! = zs.toArray[m - 1]!
        · exact e
        · exact absurd (.inr e) hk'
      refine ⟨h1, fun x hx => ?_, fun j hj => ?_⟩
      · obtain ⟨j, hj, e2⟩ := h2 x hx; exact ⟨j, by omega, e2⟩
      · rcases Nat.lt_or_ge j m with e | e
        · exact h3 j e
        · have : j = m := by omega
          subst this; rw [e1]; exact h3 _ (by omega)
theorem compact_sorted {zs : List Int} (h : zs.Pairwise (· ≤ ·)) : (Lib.compact zs).Pairwise (· < ·) ∧ ∀ x, x ∈ Lib.compact zs ↔ x ∈ zs := by
  obtain ⟨h1, h2, h3⟩ := compact_up h zs.length (Nat.le_refl _)
  refine ⟨h1, fun x => ⟨fun hx => ?_, fun hx => ?_⟩⟩
  · obtain ⟨j, hj, rfl⟩ := h2 x hx
    rw [getElem!_pos zs.toArray j (by simpa using hj)]
    simp
  · obtain ⟨j, hj, rfl⟩ := List.getElem_of_mem hx
    have := h3 j hj
    rw [getElem!_pos zs.toArray j (by simpa using hj)] at this
    simp only [List.getElem_toArray] at this
    exact this
theorem edges_of (lo hi : Int) (ts : List Int) : Edges lo hi ts (Lib.compact (sortL (edgeL lo hi ts))) := by
  obtain ⟨h1, h2⟩ := compact_sorted (sortL_sorted (edgeL lo hi ts))
  exact ⟨h1, fun t => (h2 t).trans (sortL_mem _ _)⟩
end Go.Proofs.Ytnamkladeaohoaa.edges
