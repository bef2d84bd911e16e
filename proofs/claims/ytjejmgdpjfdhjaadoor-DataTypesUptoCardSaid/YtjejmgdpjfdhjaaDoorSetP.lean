/- data.Set in plain words. -/
import Derived.Test.YtjejmgdpjfdhjaaDoorTypesP
namespace Go.Proofs.YtjejmgdpjfdhjaaDoor.setP
open Go.Proofs.YtjejmgdpjfdhjaaDoor.nspec Go.Proofs.YtjejmgdpjfdhjaaDoor.bits Go.Proofs.YtjejmgdpjfdhjaaDoor.fld Go.Proofs.YtjejmgdpjfdhjaaDoor.typesP
set_option linter.unusedVariables false

/-- a number of a type -/
def isT (t : Int) : Prop := 1 ≤ t ∧ t ≤ 65535
instance (t : Int) : Decidable (isT t) := inferInstanceAs (Decidable (_ ∧ _))
def markT (t : Nat) : UInt8 := UInt8.ofNat (2 ^ (7 - t % 8))
/-- the block with one more of its bits -/
def putT (B : Bs) (t : Nat) : Bs :=
  let q := t % 256 / 8
  let B1 := B ++ List.replicate (q + 3 - B.length) 0
  let B2 := B1.set (q + 2) (B1.getD (q + 2) 0 ||| markT t)
  B2.set 1 (UInt8.ofNat (B2.length - 2))
structure St where
  A : Bs
  b : Int
  B : Bs
def setStep (s : St) (t : Int) : St :=
  if isT t then
    if t / 256 = s.b then ⟨s.A, s.b, putT s.B t.toNat⟩
    else ⟨s.A ++ s.B, t / 256, putT [UInt8.ofNat (t.toNat / 256), 0] t.toNat⟩
  else s
def set0 : St := ⟨[], -1, []⟩
def setL (L : List Int) : Bs := let s := L.foldl setStep set0; s.A ++ s.B

theorem putT_len (B : Bs) (t : Nat) : (putT B t).length = max B.length (t % 256 / 8 + 3) := by
  simp only [putT, List.length_set, List.length_append, List.length_replicate]; omega
theorem putT_idem (B : Bs) (t : Nat) : putT (putT B t) t = putT B t := by
  have hl := putT_len B t
  obtain ⟨C, hC⟩ : ∃ C, putT B t = C := ⟨_, rfl⟩
  have h0 : C = ((B ++ List.replicate (t % 256 / 8 + 3 - B.length) 0).set (t % 256 / 8 + 2) ((B ++ List.replicate (t % 256 / 8 + 3 - B.length) 0).getD (t % 256 / 8 + 2) 0 ||| markT t)).set 1 (UInt8.ofNat (C.length - 2)) := by
    have : C.length = max B.length (t % 256 / 8 + 3) := by rw [← hC]; exact hl
    rw [← hC]; simp only [putT, List.length_set]
  rw [hC] at hl ⊢
  have hr : t % 256 / 8 + 3 - C.length = 0 := by omega
  simp only [putT, hr, List.replicate_zero, List.append_nil, List.length_set]
  have h1 : C.getD (t % 256 / 8 + 2) 0 = (B ++ List.replicate (t % 256 / 8 + 3 - B.length) 0).getD (t % 256 / 8 + 2) 0 ||| markT t := by
    rw [h0, List.getD_eq_getElem?_getD, List.getElem?_set_ne (by omega), List.getElem?_set_self (by rw [List.length_append, List.length_replicate]; omega)]; rfl
  have h2 : C.getD (t % 256 / 8 + 2) 0 ||| markT t = C.getD (t % 256 / 8 + 2) 0 := by
    rw [h1, UInt8.or_assoc, UInt8.or_self]
  have h3 : C.getD 1 0 = UInt8.ofNat (C.length - 2) := by
    rw [h0, List.getD_eq_getElem?_getD, List.getElem?_set_self (by simp only [List.length_set, List.length_append, List.length_replicate]; omega)]
    simp only [List.length_set, List.length_append, List.length_replicate, Option.getD_some]
    congr 1; omega
  rw [h2, ← h3]
  have set_self : ∀ (l : Bs) (k : Nat), l.set k (l.getD k 0) = l := by
    intro l k
    apply List.ext_getElem?
    intro i
    by_cases h : i = k
    · subst h
      by_cases hi : i < l.length
      · rw [List.getElem?_set_self hi, List.getElem?_eq_getElem hi, List.getD_eq_getElem?_getD, List.getElem?_eq_getElem hi]; rfl
      · rw [List.set_eq_of_length_le (by omega)]
    · rw [List.getElem?_set_ne (by omega)]
  rw [set_self, set_self]
theorem step_idem (s : St) (t : Int) : setStep (setStep s t) t = setStep s t := by
  by_cases h : isT t
  · by_cases hb : t / 256 = s.b
    · simp only [setStep, if_pos h, if_pos hb, putT_idem]
    · simp only [setStep, if_pos h, if_neg hb, if_true, putT_idem]
  · simp only [setStep, if_neg h]
theorem step_no (s : St) {t : Int} (h : ¬ isT t) : setStep s t = s := by simp only [setStep, if_neg h]

/-- rising lists with the same numbers make the same set -/
theorem fold_same : ∀ (n : Nat) (L l : List Int) (s : St), L.length ≤ n → L.Pairwise (· ≤ ·) → l.Pairwise (· < ·) → (∀ x, x ∈ l ↔ x ∈ L ∧ isT x) → L.foldl setStep s = l.foldl setStep s
  | n, [], l, s, _, _, _, h => by
    have : l = [] := List.eq_nil_iff_forall_not_mem.2 fun x hx => by simpa using ((h x).1 hx).1
    rw [this]
  | 0, t :: L, l, s, hn, _, _, _ => by simp at hn
  | n + 1, t :: L, l, s, hn, hL, hl, h => by
    rw [List.length_cons] at hn
    rw [List.pairwise_cons] at hL
    by_cases ht : isT t
    · have htl : t ∈ l := (h t).2 ⟨List.mem_cons_self, ht⟩
      cases l with
      | nil => simp at htl
      | cons y l =>
        have hy := (h y).1 List.mem_cons_self
        rw [List.pairwise_cons] at hl
        have hty : t = y := by
          rcases List.mem_cons.1 htl with e | e
          · exact e
          · have h1 := hl.1 t e
            rcases List.mem_cons.1 hy.1 with e2 | e2
            · exact e2.symm
            · have := hL.1 y e2; omega
        subst hty
        by_cases hin : t ∈ L
        · cases L with
          | nil => simp at hin
          | cons z L =>
            have hz : z = t := by
              rw [List.pairwise_cons] at hL
              have h1 := hL.1 z List.mem_cons_self
              rcases List.mem_cons.1 hin with e | e
              · exact e.symm
              · have := hL.2.1 t e; omega
            subst hz
            have hr := fold_same n (z :: L) (z :: l) s (by simpa using hn) hL.2 (List.pairwise_cons.2 hl) (fun x => by
              rw [h x]; constructor
              · rintro ⟨h1, h2⟩
                refine ⟨?_, h2⟩
                rcases List.mem_cons.1 h1 with e | e
                · rw [e]; exact List.mem_cons_self
                · exact e
              · rintro ⟨h1, h2⟩; exact ⟨List.mem_cons_of_mem _ h1, h2⟩)
            rw [← hr]
            show List.foldl setStep (setStep (setStep s z) z) L = _
            rw [step_idem]; rfl
        · show List.foldl setStep (setStep s t) L = List.foldl setStep (setStep s t) l
          refine fold_same n L l _ (by omega) hL.2 hl.2 (fun x => ?_)
          constructor
          · intro hx
            have h1 := (h x).1 (List.mem_cons_of_mem _ hx)
            refine ⟨?_, h1.2⟩
            rcases List.mem_cons.1 h1.1 with e | e
            · have := hl.1 x hx; omega
            · exact e
          · rintro ⟨h1, h2⟩
            have h3 := (h x).2 ⟨List.mem_cons_of_mem _ h1, h2⟩
            rcases List.mem_cons.1 h3 with e | e
            · rw [e] at h1; exact absurd h1 hin
            · exact e
    · show List.foldl setStep (setStep s t) L = _
      rw [step_no s ht]
      refine fold_same n L l s (by omega) hL.2 hl (fun x => ?_)
      rw [h x]
      constructor
      · rintro ⟨h1, h2⟩
        refine ⟨?_, h2⟩
        rcases List.mem_cons.1 h1 with e | e
        · rw [e] at h2; exact absurd h2 ht
        · exact e
      · rintro ⟨h1, h2⟩; exact ⟨List.mem_cons_of_mem _ h1, h2⟩

/-! what the set's bytes say -/
theorem mark_bit (c : UInt8) (i j : Nat) (hi : i < 8) (hj : j < 8) : ((c ||| UInt8.ofNat (2 ^ (7 - j))).toNat / 2 ^ (7 - i) % 2 = 1) ↔ (i = j ∨ c.toNat / 2 ^ (7 - i) % 2 = 1) := by
  have hp : 2 ^ (7 - j) < 256 := Nat.lt_of_le_of_lt (Nat.pow_le_pow_right (n := 2) (by omega) (show 7 - j ≤ 7 by omega)) (by decide)
  have h1 : (c ||| UInt8.ofNat (2 ^ (7 - j))).toNat = c.toNat ||| 2 ^ (7 - j) := by
    rw [UInt8.toNat_or, UInt8.toNat_ofNat_of_lt' hp]
  have hd : ∀ x k : Nat, (x / 2 ^ k % 2 = 1) ↔ x.testBit k = true := by
    intro x k
    rw [Nat.testBit_eq_decide_div_mod_eq, decide_eq_true_eq]
  rw [hd, hd, h1, Nat.testBit_or, Bool.or_eq_true, Nat.testBit_two_pow, decide_eq_true_eq]
  constructor
  · rintro (h | h)
    · exact .inr h
    · left; omega
  · rintro (h | h)
    · right; omega
    · exact .inl h

theorem mem_pick : ∀ (l : List Nat) (b k x : Nat), x ∈ pickL b k l ↔ ∃ j, l[j]? = some 1 ∧ x = b * 256 + (k + j)
  | [], b, k, x => by simp [pickL]
  | y :: l, b, k, x => by
    have ih := mem_pick l b (k + 1) x
    have hs : (∃ j, (y :: l)[j]? = some 1 ∧ x = b * 256 + (k + j)) ↔ ((y = 1 ∧ x = b * 256 + k) ∨ ∃ j, l[j]? = some 1 ∧ x = b * 256 + (k + 1 + j)) := by
      constructor
      · rintro ⟨j, h1, h2⟩
        cases j with
        | zero => left; simp at h1; exact ⟨h1, by simpa using h2⟩
        | succ j => right; exact ⟨j, by simpa using h1, by omega⟩
      · rintro (⟨h1, h2⟩ | ⟨j, h1, h2⟩)
        · exact ⟨0, by simp [h1], by simpa using h2⟩
        · exact ⟨j + 1, by simpa using h1, by omega⟩
    rw [hs, ← ih]
    simp only [pickL]
    split
    · rename_i h
      simp [h]
    · rename_i h
      simp [h]
def bitOf (r : Bs) (k : Nat) : Nat := (r.getD (k / 8) 0).toNat / 2 ^ (7 - k % 8) % 2
theorem bitOf_out {r : Bs} {k : Nat} (h : 8 * r.length ≤ k) : bitOf r k = 0 := by
  unfold bitOf
  rw [List.getD_eq_getElem?_getD, List.getElem?_eq_none (by omega)]
  simp
theorem mem_block (b : Nat) (r : Bs) (x : Nat) : x ∈ blockL b r ↔ ∃ k, bitOf r k = 1 ∧ x = b * 256 + k := by
  show x ∈ pickL b 0 (bitsL r) ↔ _
  rw [mem_pick]
  constructor
  · rintro ⟨j, h1, h2⟩
    have hj : j < 8 * r.length := by rw [← bitsL_len]; exact (List.getElem?_eq_some_iff.1 h1).1
    rw [bitsL_get r j hj] at h1
    exact ⟨j, by simpa [bitOf] using h1, by omega⟩
  · rintro ⟨j, h1, h2⟩
    have hj : j < 8 * r.length := by
      rcases Nat.lt_or_ge j (8 * r.length) with h | h
      · exact h
      · rw [bitOf_out h] at h1; omega
    exact ⟨j, by rw [bitsL_get r j hj]; simpa [bitOf] using h1, by omega⟩
theorem bit_or (c : UInt8) (t k : Nat) : ((c ||| markT t).toNat / 2 ^ (7 - k % 8) % 2 = 1) ↔ (k % 8 = t % 8 ∨ c.toNat / 2 ^ (7 - k % 8) % 2 = 1) :=
  mark_bit c (k % 8) (t % 8) (by omega) (by omega)
theorem getD_pad (r : Bs) (n j : Nat) : (r ++ List.replicate n 0).getD j 0 = r.getD j 0 := by
  rw [List.getD_eq_getElem?_getD, List.getD_eq_getElem?_getD]
  by_cases h : j < r.length
  · rw [List.getElem?_append_left h]
  · rw [List.getElem?_append_right (by omega), List.getElem?_eq_none (l := r) (by omega), List.getElem?_replicate]
    split <;> rfl
/-- the row of bits with one more -/
def putR (r : Bs) (t : Nat) : Bs :=
  let q := t % 256 / 8
  (r ++ List.replicate (q + 1 - r.length) 0).set q (r.getD q 0 ||| markT t)
theorem putR_len (r : Bs) (t : Nat) : (putR r t).length = max r.length (t % 256 / 8 + 1) := by
  simp only [putR, List.length_set, List.length_append, List.length_replicate]; omega
theorem putR_at (r : Bs) (t : Nat) : (putR r t).getD (t % 256 / 8) 0 = r.getD (t % 256 / 8) 0 ||| markT t := by
  simp only [putR]
  rw [List.getD_eq_getElem?_getD, List.getElem?_set_self (by rw [List.length_append, List.length_replicate]; omega)]; rfl
theorem putR_ne (r : Bs) (t j : Nat) (h : j ≠ t % 256 / 8) : (putR r t).getD j 0 = r.getD j 0 := by
  simp only [putR]
  rw [List.getD_eq_getElem?_getD, List.getElem?_set_ne (by omega), ← List.getD_eq_getElem?_getD, getD_pad]
theorem putR_bit (r : Bs) (t k : Nat) : bitOf (putR r t) k = 1 ↔ (k = t % 256 ∨ bitOf r k = 1) := by
  unfold bitOf
  by_cases h : k / 8 = t % 256 / 8
  · rw [h, putR_at, bit_or]
    constructor
    · rintro (h1 | h1)
      · left; omega
      · exact .inr h1
    · rintro (h1 | h1)
      · left; omega
      · exact .inr h1
  · rw [putR_ne _ _ _ h]
    constructor
    · exact .inr
    · rintro (h1 | h1)
      · exact absurd (by rw [h1]) h
      · exact h1
theorem mark_ne (c : UInt8) (t : Nat) : (c ||| markT t) ≠ 0 := by
  intro h
  have h1 := (bit_or c t t).2 (.inl rfl)
  rw [h] at h1
  simp at h1
theorem putT_row (b n : UInt8) (r : Bs) (t : Nat) : putT (b :: n :: r) t = b :: UInt8.ofNat (putR r t).length :: putR r t := by
  simp only [putT, putR]
  have e1 : t % 256 / 8 + 3 - (b :: n :: r).length = t % 256 / 8 + 1 - r.length := by simp only [List.length_cons]; omega
  rw [e1]
  have e2 : ((b :: n :: r) ++ List.replicate (t % 256 / 8 + 1 - r.length) (0 : UInt8)).getD (t % 256 / 8 + 2) 0 = r.getD (t % 256 / 8) 0 := by
    rw [getD_pad]; rfl
  rw [e2]
  simp only [List.cons_append, List.set_cons_succ, List.set_cons_zero, List.length_cons, List.length_set]
  rfl

/-- what the bytes so far say -/
def Inv (s : St) (t0 : Int) (M : Int → Prop) : Prop :=
  (s = set0 ∧ (∀ x, ¬ M x) ∧ t0 < 1) ∨
  ∃ (r : Bs) (lA : List Nat) (last : Int), isT t0 ∧ s.b = t0 / 256 ∧ s.B = UInt8.ofNat (t0.toNat / 256) :: UInt8.ofNat r.length :: r ∧ r.length = t0.toNat % 256 / 8 + 1 ∧ r.getD (r.length - 1) 0 ≠ 0 ∧
    last < t0 / 256 ∧ (s.A.length : Int) ≤ 34 * (t0 / 256) ∧ (∀ rest, typesA (-1) [] (s.A ++ rest) = typesA last lA rest) ∧ (∀ x : Nat, x ∈ lA ++ blockL (t0.toNat / 256) r ↔ M (x : Int))
theorem types_row {last : Int} {out : List Nat} {b : Nat} {r : Bs} (hb : b < 256) (hl : last < b) (h1 : 1 ≤ r.length) (h2 : r.length ≤ 32) (h3 : r.getD (r.length - 1) 0 ≠ 0) (rest : Bs) :
    typesA last out ((UInt8.ofNat b :: UInt8.ofNat r.length :: r) ++ rest) = typesA (b : Int) (out ++ blockL b r) rest := by
  have e1 : (UInt8.ofNat b).toNat = b := UInt8.toNat_ofNat_of_lt' hb
  have e2 : (UInt8.ofNat r.length).toNat = r.length := UInt8.toNat_ofNat_of_lt' (Nat.lt_of_le_of_lt h2 (by decide))
  rw [List.cons_append, List.cons_append, types_go]
  · rw [e1, e2, List.take_left, List.drop_left]
  · rw [e1, e2]
    rintro (h | h | h | h | h)
    · omega
    · omega
    · omega
    · rw [List.length_append] at h; omega
    · rw [List.getD_eq_getElem?_getD, List.getElem?_append_left (by omega), ← List.getD_eq_getElem?_getD] at h
      exact h3 h
theorem inv_step {s : St} {t0 t : Int} {M : Int → Prop} (h : Inv s t0 M) (ht : t0 ≤ t) : Inv (setStep s t) (if isT t then t else t0) (fun x => M x ∨ (x = t ∧ isT t)) := by
  by_cases hv : isT t
  · rw [if_pos hv]
    obtain ⟨T, hT⟩ : ∃ T : Nat, t = (T : Int) := ⟨t.toNat, by unfold isT at hv; omega⟩
    have hT2 : t.toNat = T := by omega
    have hTv : 1 ≤ T ∧ T ≤ 65535 := by unfold isT at hv; omega
    right
    rcases h with ⟨rfl, hM, h0⟩ | ⟨r, lA, last, g1, g2, g3, g4, g5, g6, gl, g7, g8⟩
    · refine ⟨putR [] T, [], -1, hv, ?_, ?_, ?_, ?_, by omega, ?_, fun rest => ?_, fun x => ?_⟩
      · simp only [setStep, if_pos hv]
        rw [if_neg (show ¬ (t / 256 = set0.b) by show ¬ (t / 256 = -1); omega)]
      · simp only [setStep, if_pos hv]
        rw [if_neg (show ¬ (t / 256 = set0.b) by show ¬ (t / 256 = -1); omega), hT2]
        exact putT_row _ _ _ _
      · rw [putR_len, hT2]; simp
      · rw [putR_len]; simp only [List.length_nil, Nat.zero_max, Nat.add_sub_cancel]
        rw [putR_at]; exact mark_ne _ _
      · simp only [setStep, if_pos hv]
        rw [if_neg (show ¬ (t / 256 = set0.b) by show ¬ (t / 256 = -1); omega)]
        simp [set0]; omega
      · simp only [setStep, if_pos hv]
        rw [if_neg (show ¬ (t / 256 = set0.b) by show ¬ (t / 256 = -1); omega)]
        rfl
      · rw [List.nil_append, mem_block, hT2]
        constructor
        · rintro ⟨k, h1, h2⟩
          right
          rcases (putR_bit _ _ _).1 h1 with e | e
          · exact ⟨by omega, hv⟩
          · simp [bitOf] at e
        · rintro (h1 | ⟨h1, _⟩)
          · exact absurd h1 (hM _)
          · exact ⟨T % 256, (putR_bit _ _ _).2 (.inl rfl), by omega⟩
    · obtain ⟨T0, hT0⟩ : ∃ T0 : Nat, t0 = (T0 : Int) := ⟨t0.toNat, by unfold isT at g1; omega⟩
      have hT02 : t0.toNat = T0 := by omega
      have hT0v : 1 ≤ T0 ∧ T0 ≤ 65535 := by unfold isT at g1; omega
      rw [hT02] at g3 g4 g8
      by_cases hb : t / 256 = s.b
      · have hbe : T / 256 = T0 / 256 := by omega
        have hq : T0 % 256 / 8 ≤ T % 256 / 8 := by omega
        have hrl : (putR r T).length = T % 256 / 8 + 1 := by rw [putR_len]; omega
        refine ⟨putR r T, lA, last, hv, ?_, ?_, ?_, ?_, by omega, ?_, fun rest => ?_, fun x => ?_⟩
        · simp only [setStep, if_pos hv, if_pos hb]; exact hb.symm
        · simp only [setStep, if_pos hv, if_pos hb]
          rw [g3, putT_row, hT2, hbe]
        · rw [hrl, hT2]
        · rw [hrl, Nat.add_sub_cancel, putR_at]; exact mark_ne _ _
        · simp only [setStep, if_pos hv, if_pos hb]; omega
        · simp only [setStep, if_pos hv, if_pos hb]; exact g7 rest
        · rw [hT2, hbe]
          have hx := g8 x
          rw [List.mem_append, mem_block] at hx ⊢
          constructor
          · rintro (h1 | ⟨k, h1, h2⟩)
            · exact .inl (hx.1 (.inl h1))
            · rcases (putR_bit _ _ _).1 h1 with e | e
              · exact .inr ⟨by omega, hv⟩
              · exact .inl (hx.1 (.inr ⟨k, e, h2⟩))
          · rintro (h1 | ⟨h1, _⟩)
            · rcases hx.2 h1 with h2 | ⟨k, h2, h3⟩
              · exact .inl h2
              · exact .inr ⟨k, (putR_bit _ _ _).2 (.inr h2), h3⟩
            · exact .inr ⟨T % 256, (putR_bit _ _ _).2 (.inl rfl), by omega⟩
      · have hbe : T0 / 256 < T / 256 := by omega
        have hrl : (putR [] T).length = T % 256 / 8 + 1 := by rw [putR_len]; simp
        refine ⟨putR [] T, lA ++ blockL (T0 / 256) r, (T0 / 256 : Nat), hv, ?_, ?_, ?_, ?_, by omega, ?_, fun rest => ?_, fun x => ?_⟩
        · simp only [setStep, if_pos hv, if_neg hb]
        · simp only [setStep, if_pos hv, if_neg hb]
          rw [hT2]; exact putT_row _ _ _ _
        · rw [hrl, hT2]
        · rw [hrl, Nat.add_sub_cancel, putR_at]; exact mark_ne _ _
        · simp only [setStep, if_pos hv, if_neg hb]
          rw [g3]; simp only [List.length_append, List.length_cons]; omega
        · simp only [setStep, if_pos hv, if_neg hb]
          rw [List.append_assoc, g7, g3]
          exact types_row (by omega) (by omega) (by omega) (by omega) g5 rest
        · rw [hT2]
          have hx := g8 x
          rw [List.mem_append, hx, mem_block]
          constructor
          · rintro (h1 | ⟨k, h1, h2⟩)
            · exact .inl h1
            · rcases (putR_bit _ _ _).1 h1 with e | e
              · exact .inr ⟨by omega, hv⟩
              · simp [bitOf] at e
          · rintro (h1 | ⟨h1, _⟩)
            · exact .inl h1
            · exact .inr ⟨T % 256, (putR_bit _ _ _).2 (.inl rfl), by omega⟩
  · rw [if_neg hv, step_no s hv]
    have e : (fun x => M x ∨ (x = t ∧ isT t)) = M := by
      funext x; apply propext; constructor
      · rintro (h1 | h1)
        · exact h1
        · exact absurd h1.2 hv
      · exact .inl
    rw [e]; exact h
theorem inv_fold : ∀ (L : List Int) (s : St) (t0 : Int) (M : Int → Prop), Inv s t0 M → (∀ x ∈ L, t0 ≤ x) → L.Pairwise (· ≤ ·) → ∃ t1, Inv (L.foldl setStep s) t1 (fun x => M x ∨ (x ∈ L ∧ isT x))
  | [], s, t0, M, h, _, _ => ⟨t0, by simpa using h⟩
  | t :: L, s, t0, M, h, h1, h2 => by
    rw [List.pairwise_cons] at h2
    obtain ⟨t1, h3⟩ := inv_fold L (setStep s t) _ _ (inv_step h (h1 t List.mem_cons_self)) (fun x hx => by
      split
      · exact h2.1 x hx
      · exact h1 x (List.mem_cons_of_mem _ hx)) h2.2
    refine ⟨t1, ?_⟩
    have e : (fun x => M x ∨ (x ∈ t :: L ∧ isT x)) = (fun x => (M x ∨ (x = t ∧ isT t)) ∨ (x ∈ L ∧ isT x)) := by
      funext x; apply propext
      rw [List.mem_cons]
      constructor
      · rintro (h | ⟨h | h, g⟩)
        · exact .inl (.inl h)
        · rw [h] at g ⊢; exact .inl (.inr ⟨rfl, g⟩)
        · exact .inr ⟨h, g⟩
      · rintro ((h | ⟨h, g⟩) | ⟨h, g⟩)
        · exact .inl h
        · rw [h]; exact .inr ⟨.inl rfl, g⟩
        · exact .inr ⟨.inr h, g⟩
    rw [e]; exact h3
theorem inv0 (B : Int) (h : B < 1) : Inv set0 B (fun _ => False) := .inl ⟨rfl, fun _ h => h, h⟩
theorem inv_end {s : St} {t0 : Int} {M : Int → Prop} (h : Inv s t0 M) (hM : ∀ x, M x → isT x) : ∃ l : List Nat, typesS (s.A ++ s.B) = some l ∧ (∀ x : Nat, x ∈ l ↔ M (x : Int)) ∧ l.Pairwise (· < ·) ∧ (s.A ++ s.B).length ≤ 8704 := by
  rcases h with ⟨rfl, h, _⟩ | ⟨r, lA, last, g1, g2, g3, g4, g5, g6, gl, g7, g8⟩
  · exact ⟨[], rfl, fun x => by simpa using h x, List.Pairwise.nil, by simp [set0]⟩
  · have hT0v : 1 ≤ t0.toNat ∧ t0.toNat ≤ 65535 ∧ t0 = t0.toNat := by unfold isT at g1; omega
    have e : typesA (-1) [] (s.A ++ s.B) = some (lA ++ blockL (t0.toNat / 256) r) := by
      have h1 := types_row (last := last) (out := lA) (b := t0.toNat / 256) (r := r) (by omega) (by omega) (by omega) (by omega) g5 []
      rw [List.append_nil] at h1
      rw [g7, g3, h1, types_end]
    refine ⟨_, ?_, g8, (sorted_of e).1, by rw [List.length_append, g3]; simp only [List.length_cons]; omega⟩
    have h0 : 0 ∉ lA ++ blockL (t0.toNat / 256) r := fun h => by
      have := hM _ ((g8 0).1 h); unfold isT at this; omega
    rw [typesS_eq, e]; simp [h0]
def sortL (L : List Int) : List Int := L.mergeSort fun x y => decide (x ≤ y)
theorem sortL_sorted (L : List Int) : (sortL L).Pairwise (· ≤ ·) := by
  have h := List.pairwise_mergeSort (le := fun x y : Int => decide (x ≤ y)) (fun a b c h1 h2 => by simp at *; omega) (fun a b => by simp; omega) L
  exact h.imp fun h => by simpa using h
theorem sortL_mem (L : List Int) (x : Int) : x ∈ sortL L ↔ x ∈ L := by unfold sortL; exact List.mem_mergeSort
theorem sortL_len (L : List Int) : (sortL L).length = L.length := by unfold sortL; exact List.length_mergeSort _
theorem sortL_id {L : List Int} (h : L.Pairwise (· < ·)) : sortL L = L := by
  unfold sortL; exact List.mergeSort_of_pairwise (h.imp fun h => by simp; omega)
/-- what data.Types says of data.Set -/
theorem set_types (L : List Int) : ∃ l : List Nat, typesS (setL (sortL L)) = some l ∧ (∀ x : Nat, x ∈ l ↔ ((x : Int) ∈ L ∧ isT (x : Int))) ∧ l.Pairwise (· < ·) ∧ (setL (sortL L)).length ≤ 8704 := by
  obtain ⟨B, hB⟩ : ∃ B : Int, B < 1 ∧ ∀ x ∈ sortL L, B ≤ x := by
    have h := sortL_sorted L
    cases hs : sortL L with
    | nil => exact ⟨0, by omega, by simp⟩
    | cons y r =>
      rw [hs, List.pairwise_cons] at h
      refine ⟨min y 0, by omega, fun x hx => ?_⟩
      rcases List.mem_cons.1 hx with e | e
      · omega
      · have := h.1 x e; omega
  obtain ⟨t1, h⟩ := inv_fold (sortL L) set0 B _ (inv0 B hB.1) hB.2 (sortL_sorted L)
  obtain ⟨l, h1, h2, h3, h4⟩ := inv_end h (by rintro x (h | h); exact h.elim; exact h.2)
  refine ⟨l, h1, fun x => ?_, h3, h4⟩
  rw [h2 x, sortL_mem]; simp
theorem set_again {L : List Int} {l : List Nat} (h2 : ∀ x : Nat, x ∈ l ↔ ((x : Int) ∈ L ∧ isT (x : Int))) (h3 : l.Pairwise (· < ·)) : setL (sortL (l.map fun x : Nat => (x : Int))) = setL (sortL L) := by
  have hs : (l.map fun x : Nat => (x : Int)).Pairwise (· < ·) := by
    rw [List.pairwise_map]; exact h3.imp fun h => by omega
  rw [sortL_id hs]
  unfold setL
  rw [fold_same (sortL L).length (sortL L) (l.map fun x : Nat => (x : Int)) set0 (Nat.le_refl _) (sortL_sorted L) hs]
  intro x
  rw [List.mem_map, sortL_mem]
  constructor
  · rintro ⟨y, h, rfl⟩; exact (h2 y).1 h
  · rintro ⟨h, g⟩
    have e : ((x.toNat : Nat) : Int) = x := by unfold isT at g; omega
    exact ⟨x.toNat, (h2 x.toNat).2 ⟨by rw [e]; exact h, by rw [e]; exact g⟩, e⟩
theorem sorted_ext : ∀ (l m : List Nat), l.Pairwise (· < ·) → m.Pairwise (· < ·) → (∀ x, x ∈ l ↔ x ∈ m) → l = m
  | [], m, _, _, h => by
    have : m = [] := List.eq_nil_iff_forall_not_mem.2 fun x hx => by simpa using (h x).2 hx
    rw [this]
  | x :: l, [], _, _, h => by have := (h x).1 List.mem_cons_self; simp at this
  | x :: l, y :: m, h1, h2, h => by
    rw [List.pairwise_cons] at h1 h2
    have hxy : x = y := by
      rcases List.mem_cons.1 ((h x).1 List.mem_cons_self) with e | e
      · exact e
      · rcases List.mem_cons.1 ((h y).2 List.mem_cons_self) with e2 | e2
        · exact e2.symm
        · have := h1.1 y e2; have := h2.1 x e; omega
    subst hxy
    rw [sorted_ext l m h1.2 h2.2]
    intro z
    have hz := h z
    rw [List.mem_cons, List.mem_cons] at hz
    constructor
    · intro g
      rcases hz.1 (.inr g) with e | e
      · have := h1.1 z g; omega
      · exact e
    · intro g
      rcases hz.2 (.inr g) with e | e
      · have := h2.1 z g; omega
      · exact e
theorem types_first {l : List Nat} (h : typesS (setL (sortL [46, 1, 15, 1])) = some l) : l = [1, 15, 46] := by
  obtain ⟨m, h1, h2, h3, _⟩ := set_types [46, 1, 15, 1]
  rw [h1] at h; cases h
  refine sorted_ext _ _ h3 (by decide) (fun x => ?_)
  rw [h2 x]
  simp only [List.mem_cons, List.not_mem_nil, or_false, isT]
  omega

end Go.Proofs.YtjejmgdpjfdhjaaDoor.setP
