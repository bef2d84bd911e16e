/- What token tells, and what entries are made of it: plain. -/
import Derived.Test.YtabmcambgdnaiaaDoorTokW
namespace Go.Proofs.YtabmcambgdnaiaaDoor.tokP
open Go.RowKit Go.Proofs.YtabmcambgdnaiaaDoor.kit Go.Proofs.YtabmcambgdnaiaaDoor.entP Go.Proofs.YtabmcambgdnaiaaDoor.tokW
set_option linter.unusedVariables false

theorem tok_inv {t : Bt} {k en : Nat} {kd : Int} (h : TokP t k kd en) :
    (kd = 32 ∧ ∃ c, t[k]? = some c ∧ blankB c = true ∧ en = k + 1) ∨ (kd = 32 ∧ t[k]? = some 59 ∧ en = remAt t (k + 1)) ∨
    (∃ c, t[k]? = some c ∧ (c = 10 ∨ c = 40 ∨ c = 41) ∧ kd = (c.toNat : Int) ∧ en = k + 1) ∨
    (kd = 120 ∧ ∀ (CT CE : Int) (g : Nat) (s : Es), scanE CT CE t (g + 1) k s = ([], CT, s.line)) ∨
    (kd = 113 ∧ ∃ j, t[k]? = some 34 ∧ wordAt true t (k + 1) = some j ∧ t[j]? = some 34 ∧ en = j + 1) ∨
    (kd = 119 ∧ ∃ c, t[k]? = some c ∧ stopB false c = false ∧ wordAt false t k = some en) := by
  unfold TokP at h
  cases hc : t[k]? with
  | none => rw [hc] at h; exact absurd h (by simp)
  | some c =>
    rw [hc] at h
    dsimp only at h
    by_cases h1 : blankB c = true
    · rw [if_pos h1] at h
      exact .inl ⟨h.1, c, rfl, h1, h.2⟩
    rw [if_neg h1] at h
    by_cases h2 : c = 10 ∨ c = 40 ∨ c = 41
    · rw [if_pos h2] at h
      exact .inr (.inr (.inl ⟨c, rfl, h2, h.1, h.2⟩))
    rw [if_neg h2] at h
    by_cases h3 : c = 59
    · rw [if_pos h3] at h
      exact .inr (.inl ⟨h.1, by rw [h3], h.2⟩)
    rw [if_neg h3] at h
    by_cases h4 : c = 34
    · rw [if_pos h4] at h
      subst h4
      cases hw : wordAt true t (k + 1) with
      | none => rw [hw] at h; exact .inr (.inr (.inr (.inl ⟨h, fun CT CE g s => sc_quo0 hc hw⟩)))
      | some j =>
        rw [hw] at h
        dsimp only at h
        by_cases h5 : t[j]? = some 34
        · rw [if_pos h5] at h
          exact .inr (.inr (.inr (.inr (.inl ⟨h.1, j, rfl, rfl, h5, h.2⟩))))
        · rw [if_neg h5] at h
          exact .inr (.inr (.inr (.inl ⟨h, fun CT CE g s => sc_quo1 hc hw h5⟩)))
    rw [if_neg h4] at h
    have hs : stopB false c = false := by
      have h1' : blankB c = false := by simpa using h1
      simp only [not_or] at h2
      simp [stopB, h1', h2.1, h2.2.1, h2.2.2, h3, h4]
    cases hw : wordAt false t k with
    | none => rw [hw] at h; exact .inr (.inr (.inr (.inl ⟨h, fun CT CE g s => sc_word0 hc hs hw⟩)))
    | some j =>
      rw [hw] at h
      exact .inr (.inr (.inr (.inr (.inr ⟨h.1, c, rfl, hs, by rw [h.2]⟩))))
end Go.Proofs.YtabmcambgdnaiaaDoor.tokP
