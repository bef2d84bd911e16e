/- What is true of a name's parts: plain. -/
import Derived.Test.YthblaldkpjilhaaRoundsP
import Derived.Test.YthblaldkpjilhaaNameL
namespace Go.Proofs.Ythblaldkpjilhaa.roundsQ
open Go.Proofs.Ythblaldkpjilhaa.kit Go.Proofs.Ythblaldkpjilhaa.nspec Go.Proofs.Ythblaldkpjilhaa.rput Go.Proofs.Ythblaldkpjilhaa.rsplit Go.Proofs.Ythblaldkpjilhaa.low Go.Proofs.Ythblaldkpjilhaa.readS Go.Proofs.Ythblaldkpjilhaa.showB Go.Proofs.Ythblaldkpjilhaa.join Go.Proofs.Ythblaldkpjilhaa.refA Go.Proofs.Ythblaldkpjilhaa.nameB Go.Proofs.Ythblaldkpjilhaa.nameL
set_option linter.unusedVariables false

theorem q_join {n : Bs} {ls : List Bs} (h : IsN n ls) : joinS (labS n) = (n, 0) := by
  have e : labS n = ls := by unfold labS; rw [split_iff.2 h]
  have hr := isN_room h
  rw [e, join_ok (bad_ok.2 h.2.1) (by omega), ← h.1]
theorem q_count {n : Bs} {ls : List Bs} (h : IsN n ls) : countS n = (ls.length : Int) := by unfold countS; rw [split_iff.2 h]
theorem q_tail {n : Bs} {ls : List Bs} (h : IsN n ls) {k : Nat} (hk : k ≤ ls.length) : tailS n (k : Int) = put (ls.drop (ls.length - k)) := by
  unfold tailS; rw [split_iff.2 h]; simp only; rw [if_pos (by omega)]; simp
theorem q_all {n : Bs} {ls : List Bs} (h : IsN n ls) : tailS n (ls.length : Int) = n := by
  rw [q_tail h (Nat.le_refl _), Nat.sub_self, List.drop_zero, ← h.1]
theorem q_none {n : Bs} {ls : List Bs} (h : IsN n ls) : tailS n 0 = [0] := by
  have := q_tail h (Nat.zero_le _)
  simpa [put] using this
theorem q_low2 (x : Bs) : lowL (lowL x) = lowL x := by
  unfold lowL; rw [List.map_map]; apply List.map_congr_left; intro c _
  show lowB (lowB c) = lowB c
  have hc := c.toNat_lt
  by_cases h : 65 ≤ c.toNat ∧ c.toNat ≤ 90
  · have e := up_val c h
    exact lowB_id _ (by omega)
  · rw [lowB_id c h, lowB_id c h]
theorem q_fold {n : Bs} {ls : List Bs} (h : IsN n ls) : equalS n (foldS n) = true := by
  have hf : foldS n = lowL n := fold_low h
  have hl := lab_low h
  rw [hf, equal_low h hl, q_low2]; simp
theorem q_root {n : Bs} (h : IsN n []) : n = [0] ∧ parentS n = [] := by
  refine ⟨h.1, ?_⟩
  unfold parentS; rw [split_iff.2 h]
theorem q_sub {n x : Bs} {r : List Bs} (h : IsN n (x :: r)) : IsN (put r) r := by
  have hr := isN_room h
  refine isN_put (okL_cons.1 h.2.1).2 ?_
  simp only [room, List.map_cons, List.sum_cons] at hr ⊢; omega
theorem q_par {n x : Bs} {r : List Bs} (h : IsN n (x :: r)) : parentS n = put r := by unfold parentS; rw [split_iff.2 h]
theorem q_parent {n x : Bs} {r : List Bs} (h : IsN n (x :: r)) : tailS n ((r.length : Nat) : Int) = parentS n := by
  rw [q_par h, q_tail h (by simp)]
  have : (x :: r).length - r.length = 1 := by simp
  rw [this]; rfl
theorem q_in {n x : Bs} {r : List Bs} (h : IsN n (x :: r)) : withinP n (parentS n) = true := by
  have hs := q_sub h
  have h2 := q_parent h
  unfold withinP
  rw [q_par h] at h2 ⊢
  rw [q_count hs, h2, equal_low hs hs]
  simp
theorem q_out {n x : Bs} {r : List Bs} (h : IsN n (x :: r)) : withinP (parentS n) n = false := by
  have hs := q_sub h
  unfold withinP
  rw [q_par h, q_count h]
  have : tailS (put r) (((x :: r).length : Nat) : Int) = [] := by
    unfold tailS; rw [split_iff.2 hs]; simp only
    rw [if_neg (by simp; omega)]
  rw [this, equal_no1 (by decide)]; simp
theorem q_no {n : Bs} (h : split n = none) : showS n = [] ∧ foldS n = [] ∧ countS n = -1 ∧ equalS n n = false := by
  refine ⟨by unfold showS; rw [h], by unfold foldS; rw [h], by unfold countS; rw [h], equal_no1 h⟩
end Go.Proofs.Ythblaldkpjilhaa.roundsQ
