/- What is told of a name is read as that name: plain. -/
import Derived.Test.YthblaldkpjilhaaReadS
import Derived.Test.YthblaldkpjilhaaShowB
import Derived.Test.YthblaldkpjilhaaJoin
namespace Go.Proofs.Ythblaldkpjilhaa.roundsP
open Go.Proofs.Ythblaldkpjilhaa.kit Go.Proofs.Ythblaldkpjilhaa.nspec Go.Proofs.Ythblaldkpjilhaa.rput Go.Proofs.Ythblaldkpjilhaa.rsplit Go.Proofs.Ythblaldkpjilhaa.readS Go.Proofs.Ythblaldkpjilhaa.showA Go.Proofs.Ythblaldkpjilhaa.showB Go.Proofs.Ythblaldkpjilhaa.join Go.Proofs.Ythblaldkpjilhaa.refA
set_option linter.unusedVariables false

theorem escL_dig (c : UInt8) : (48 + c / 100).toNat = 48 + c.toNat / 100 ∧ (48 + c / 10 % 10).toNat = 48 + c.toNat / 10 % 10 ∧ (48 + c % 10).toNat = 48 + c.toNat % 10 := by
  have := c.toNat_lt
  refine ⟨?_, ?_, ?_⟩ <;> simp [UInt8.toNat_add, UInt8.toNat_div, UInt8.toNat_mod] <;> omega
theorem spec_yes {c : UInt8} (h : spec8.contains c = true) : c.toNat = 46 ∨ c.toNat = 92 ∨ c.toNat = 34 ∨ c.toNat = 40 ∨ c.toNat = 41 ∨ c.toNat = 59 ∨ c.toNat = 64 ∨ c.toNat = 36 := by
  unfold spec8 at h
  simp only [List.contains_cons, List.contains_nil, Bool.or_false, Bool.or_eq_true, beq_iff_eq] at h
  rcases h with h | h | h | h | h | h | h | h <;> subst h <;> simp
theorem spec_no {c : UInt8} (h : spec8.contains c = false) : c.toNat ≠ 46 ∧ c.toNat ≠ 92 := by
  refine ⟨fun e => ?_, fun e => ?_⟩
  · have : c = 46 := UInt8.toNat_inj.1 e
    subst this; simp [spec8] at h
  · have : c = 92 := UInt8.toNat_inj.1 e
    subst this; simp [spec8] at h
theorem piece_esc (c : UInt8) (T : Bs) : ∃ (h : UInt8) (t : Bs) (n : Nat), escB c ++ T = h :: t ∧ h.toNat ≠ 46 ∧ pieceS (h :: t) = some (c, n) ∧ (h :: t).drop n = T := by
  rcases escB_cases c with ⟨h1, h2⟩ | ⟨h1, h2, h3⟩ | ⟨h1, h2, h3, h4⟩
  · refine ⟨92, c :: T, 2, by rw [h2]; rfl, by decide, ?_, rfl⟩
    have hd : digB c = false := digB_no (by have := spec_yes h1; omega)
    unfold pieceS; simp only
    rw [if_pos (by decide)]
    unfold escS; simp only
    rw [if_pos hd]
  · obtain ⟨d1, d2, d3⟩ := escL_dig c
    have hc := c.toNat_lt
    refine ⟨92, escL c ++ T, 4, by rw [h2]; rfl, by decide, ?_, rfl⟩
    unfold pieceS; simp only
    rw [if_pos (by decide)]
    unfold escL escS; simp only [List.cons_append, List.nil_append]
    have y1 : digB (48 + c / 100) = true := digB_yes (by omega)
    have y2 : digB (48 + c / 10 % 10) = true := digB_yes (by omega)
    have y3 : digB (48 + c % 10) = true := digB_yes (by omega)
    rw [if_neg (by rw [y1]; simp), y2, y3, d1, d2, d3]
    have e : (48 + c.toNat / 100 - 48) * 100 + (48 + c.toNat / 10 % 10 - 48) * 10 + (48 + c.toNat % 10 - 48) = c.toNat := by omega
    rw [e, if_pos (by decide), if_neg (by omega)]
    simp
  · obtain ⟨n1, n2⟩ := spec_no h1
    refine ⟨c, T, 1, by rw [h2]; rfl, n1, ?_, rfl⟩
    unfold pieceS; simp only
    rw [if_neg n2]
theorem rd_lab (l : List Bs) (first : Nat) (T : Bs) : ∀ (x now : Bs) (k : Nat), now.length + x.length ≤ 63 → ∃ k', rd l now first k (x.flatMap escB ++ T) = rd l (now ++ x) first k' T
  | [], now, k, _ => ⟨k, by simp⟩
  | c :: r, now, k, h => by
    simp only [List.length_cons] at h
    obtain ⟨h1, t, n, e1, e2, e3, e4⟩ := piece_esc c (r.flatMap escB ++ T)
    obtain ⟨k', e⟩ := rd_lab l first T r (now ++ [c]) (k + n) (by simp; omega)
    refine ⟨k', ?_⟩
    rw [List.flatMap_cons, List.append_assoc, e1, rd_go e2 e3 (by omega), e4, e, List.append_assoc]; rfl
theorem rd_show : ∀ (r l : List Bs) (first k : Nat), okL r → rd l [] first k (showL r) = .ok (l ++ r, [])
  | [], l, first, k, _ => by simp [showL, rd_nil]
  | x :: r, l, first, k, h => by
    obtain ⟨⟨h1, h2⟩, h3⟩ := okL_cons.1 h
    have e : showL (x :: r) = x.flatMap escB ++ (46 :: showL r) := by simp [showL, labSh]
    obtain ⟨k', e2⟩ := rd_lab l first (46 :: showL r) x [] k (by simp; omega)
    rw [e, e2, rd_dot (by decide) (by simp; intro e3; subst e3; simp at h1), rd_show r _ _ _ h3]
    simp
theorem show_two {x : Bs} {r : List Bs} (h : 1 ≤ x.length) : 2 ≤ (showL (x :: r)).length := by
  cases x with
  | nil => simp at h
  | cons c t =>
    have : 1 ≤ (escB c).length := by
      obtain ⟨h1, t, n, e1, _⟩ := piece_esc c []
      rw [List.append_nil] at e1; rw [e1]; simp
    simp only [showL, labSh, List.flatMap_cons, List.length_append, List.length_cons, List.length_nil]; omega
theorem read_show {n origin : Bs} {ls base : List Bs} (h : IsN n ls) (ho : IsN origin base) : readS (showS n) origin = (n, 0, 0) := by
  unfold readS
  rw [split_iff.2 ho]; simp only
  cases ls with
  | nil =>
    have e : showS n = [46] := by unfold showS; rw [split_iff.2 h]
    rw [e, if_neg (by simp), if_neg (by decide), if_pos rfl, h.1]; rfl
  | cons x r =>
    have e : showS n = showL (x :: r) := by unfold showS; rw [split_iff.2 h]
    have h2 := show_two (x := x) (r := r) (okL_cons.1 h.2.1).1.1
    have hr := isN_room h
    rw [e, if_neg (by intro e2; rw [e2] at h2; simp at h2), if_neg (by intro e2; rw [e2] at h2; simp at h2), if_neg (by intro e2; rw [e2] at h2; simp at h2)]
    rw [rd_show _ _ _ _ h.2.1]
    simp only [resS, finS, endL, List.nil_append, if_true]
    rw [if_neg (by omega), h.1]
end Go.Proofs.Ythblaldkpjilhaa.roundsP
