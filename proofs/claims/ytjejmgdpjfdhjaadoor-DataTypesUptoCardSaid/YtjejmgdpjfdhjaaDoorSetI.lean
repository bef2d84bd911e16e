/- A set of types is told by one row of bytes alone: plain. -/
import Derived.Test.YtjejmgdpjfdhjaaDoorSetP
namespace Go.Proofs.YtjejmgdpjfdhjaaDoor.setI
open Go.Proofs.YtjejmgdpjfdhjaaDoor.nspec Go.Proofs.YtjejmgdpjfdhjaaDoor.bits Go.Proofs.YtjejmgdpjfdhjaaDoor.fld Go.Proofs.YtjejmgdpjfdhjaaDoor.typesP Go.Proofs.YtjejmgdpjfdhjaaDoor.setP
set_option linter.unusedVariables false

theorem byte_all {p : UInt8 → Prop} (h : ∀ i : Fin 256, p (UInt8.ofNat i.val)) (c : UInt8) : p c := by
  have := h ⟨c.toNat, c.toNat_lt⟩
  simpa using this
/-- a step of typesA -/
theorem tA_step {last : Int} {out l : List Nat} {b n : UInt8} {m : Bs} (h : typesA last out (b :: n :: m) = some l) :
    last < (b.toNat : Int) ∧ 1 ≤ n.toNat ∧ n.toNat ≤ 32 ∧ n.toNat ≤ m.length ∧ m.getD (n.toNat - 1) 0 ≠ 0 ∧ typesA (b.toNat : Int) (out ++ blockL b.toNat (m.take n.toNat)) (m.drop n.toNat) = some l := by
  by_cases hb : (b.toNat : Int) ≤ last ∨ n.toNat < 1 ∨ 32 < n.toNat ∨ m.length < n.toNat ∨ m.getD (n.toNat - 1) 0 = 0
  · rw [types_bad hb] at h; cases h
  · rw [types_go hb] at h
    simp only [not_or] at hb
    exact ⟨by omega, by omega, by omega, by omega, hb.2.2.2.2, h⟩
theorem tA_grow : ∀ (N : Nat) (d : Bs) (last : Int) (out l : List Nat), d.length ≤ N → typesA last out d = some l → ∃ X, l = out ++ X ∧ ∀ x ∈ X, last < ((x / 256 : Nat) : Int)
  | _, [], last, out, l, _, h => by
    rw [types_end] at h
    exact ⟨[], by simpa using (Option.some.inj h).symm, fun x hx => by cases hx⟩
  | _, [b], last, out, l, _, h => by rw [types_one] at h; cases h
  | 0, b :: n :: m, last, out, l, hn, h => by simp at hn
  | N + 1, b :: n :: m, last, out, l, hn, h => by
    obtain ⟨h1, h2, h3, h4, h5, h6⟩ := tA_step h
    obtain ⟨X, hX, hx⟩ := tA_grow N (m.drop n.toNat) _ _ _ (by rw [List.length_drop]; simp only [List.length_cons] at hn; omega) h6
    refine ⟨blockL b.toNat (m.take n.toNat) ++ X, by rw [hX, List.append_assoc], fun x hm => ?_⟩
    rcases List.mem_append.1 hm with hm | hm
    · obtain ⟨k, hk, rfl⟩ := (mem_block _ _ _).1 hm
      have hk2 : k < 256 := by
        rcases Nat.lt_or_ge k 256 with h | h
        · exact h
        · rw [bitOf_out (by rw [List.length_take]; omega)] at hk; cases hk
      have : (b.toNat * 256 + k) / 256 = b.toNat := by omega
      rw [this]; exact h1
    · have := hx x hm; omega
/-- a byte is told by its bits -/
theorem byte_bits (c : UInt8) : c.toNat = c.toNat / 2 ^ 7 % 2 * 128 + c.toNat / 2 ^ 6 % 2 * 64 + c.toNat / 2 ^ 5 % 2 * 32 + c.toNat / 2 ^ 4 % 2 * 16 + c.toNat / 2 ^ 3 % 2 * 8 + c.toNat / 2 ^ 2 % 2 * 4 + c.toNat / 2 ^ 1 % 2 * 2 + c.toNat / 2 ^ 0 % 2 :=
  byte_all (p := fun c => c.toNat = c.toNat / 2 ^ 7 % 2 * 128 + c.toNat / 2 ^ 6 % 2 * 64 + c.toNat / 2 ^ 5 % 2 * 32 + c.toNat / 2 ^ 4 % 2 * 16 + c.toNat / 2 ^ 3 % 2 * 8 + c.toNat / 2 ^ 2 % 2 * 4 + c.toNat / 2 ^ 1 % 2 * 2 + c.toNat / 2 ^ 0 % 2) (by decide +kernel) c
theorem bit_two (n : Nat) : n % 2 = 0 ∨ n % 2 = 1 := by omega
theorem byte_same {c d : UInt8} (h : ∀ i, i < 8 → (c.toNat / 2 ^ (7 - i) % 2 = 1 ↔ d.toNat / 2 ^ (7 - i) % 2 = 1)) : c = d := by
  have e : ∀ i, i < 8 → c.toNat / 2 ^ (7 - i) % 2 = d.toNat / 2 ^ (7 - i) % 2 := fun i hi => by
    have h1 := h i hi
    rcases bit_two (c.toNat / 2 ^ (7 - i)) with a | a <;> rcases bit_two (d.toNat / 2 ^ (7 - i)) with b | b
    · rw [a, b]
    · have := h1.2 b; omega
    · have := h1.1 a; omega
    · rw [a, b]
  apply UInt8.toNat_inj.1
  rw [byte_bits c, byte_bits d]
  have e0 := e 0 (by omega); have e1 := e 1 (by omega); have e2 := e 2 (by omega); have e3 := e 3 (by omega)
  have e4 := e 4 (by omega); have e5 := e 5 (by omega); have e6 := e 6 (by omega); have e7 := e 7 (by omega)
  simp only [Nat.sub_zero, Nat.reduceSub] at e0 e1 e2 e3 e4 e5 e6 e7
  rw [e0, e1, e2, e3, e4, e5, e6, e7]
/-- a byte that is not nought has a bit -/
theorem byte_some {c : UInt8} (h : c ≠ 0) : ∃ i, i < 8 ∧ c.toNat / 2 ^ (7 - i) % 2 = 1 := by
  apply Classical.byContradiction
  intro hn
  apply h
  apply byte_same
  intro i hi
  constructor
  · intro h1; exact absurd ⟨i, hi, h1⟩ hn
  · intro h1; simp at h1
theorem getD_take {m : Bs} {n j : Nat} (h : j < n) : (m.take n).getD j 0 = m.getD j 0 := by
  rw [List.getD_eq_getElem?_getD, List.getD_eq_getElem?_getD, List.getElem?_take_of_lt h]
/-- the last byte's bit -/
theorem last_bit {r : Bs} {n : Nat} (hr : r.length = n) (h1 : 1 ≤ n) (h : r.getD (n - 1) 0 ≠ 0) : ∃ k, 8 * (n - 1) ≤ k ∧ k < 8 * n ∧ bitOf r k = 1 := by
  obtain ⟨i, hi, hb⟩ := byte_some h
  refine ⟨8 * (n - 1) + i, by omega, by omega, ?_⟩
  unfold bitOf
  rw [show (8 * (n - 1) + i) / 8 = n - 1 by omega, show (8 * (n - 1) + i) % 8 = i by omega]
  exact hb
theorem rows_same {r r' : Bs} {n n' : Nat} (hr : r.length = n) (hr' : r'.length = n') (h1 : 1 ≤ n) (h1' : 1 ≤ n') (h : r.getD (n - 1) 0 ≠ 0) (h' : r'.getD (n' - 1) 0 ≠ 0) (hb : ∀ k, bitOf r k = 1 ↔ bitOf r' k = 1) : r = r' := by
  have hn : n = n' := by
    rcases Nat.lt_trichotomy n n' with a | a | a
    · obtain ⟨k, k1, k2, k3⟩ := last_bit hr' h1' h'
      have := (hb k).2 k3
      rw [bitOf_out (by omega)] at this; cases this
    · exact a
    · obtain ⟨k, k1, k2, k3⟩ := last_bit hr h1 h
      have := (hb k).1 k3
      rw [bitOf_out (by omega)] at this; cases this
  subst hn
  apply List.ext_getElem (by omega)
  intro j hj hj'
  have e := byte_same (c := r.getD j 0) (d := r'.getD j 0) (fun i hi => by
    have := hb (8 * j + i)
    unfold bitOf at this
    rw [show (8 * j + i) / 8 = j by omega, show (8 * j + i) % 8 = i by omega] at this
    exact this)
  rw [List.getD_eq_getElem?_getD, List.getD_eq_getElem?_getD, List.getElem?_eq_getElem hj, List.getElem?_eq_getElem hj'] at e
  exact e
/-- a block's numbers: none is missing, none from another block -/
theorem blk_bit {b : Nat} {r : Bs} {X : List Nat} {k : Nat} (hk : k < 256) (hX : ∀ x ∈ X, (b : Int) < ((x / 256 : Nat) : Int)) : (b * 256 + k) ∈ blockL b r ++ X ↔ bitOf r k = 1 := by
  rw [List.mem_append]
  constructor
  · rintro (h | h)
    · obtain ⟨j, h1, h2⟩ := (mem_block _ _ _).1 h
      have : j = k := by omega
      rw [← this]; exact h1
    · have := hX _ h
      omega
  · intro h
    exact .inl ((mem_block _ _ _).2 ⟨k, h, rfl⟩)
theorem blk_low {b : Nat} {r : Bs} {X : List Nat} (hX : ∀ x ∈ X, (b : Int) < ((x / 256 : Nat) : Int)) : ∀ x ∈ blockL b r ++ X, b * 256 ≤ x := by
  intro x hx
  rcases List.mem_append.1 hx with h | h
  · obtain ⟨j, _, rfl⟩ := (mem_block _ _ _).1 h; omega
  · have := hX x h; omega
theorem take_last {m : Bs} {n : Nat} (h1 : 1 ≤ n) (h : m.getD (n - 1) 0 ≠ 0) : (m.take n).getD (n - 1) 0 ≠ 0 := by
  rw [getD_take (by omega)]; exact h
theorem types_inj : ∀ (N : Nat) (d d' : Bs) (last : Int) (out l : List Nat), d.length ≤ N → typesA last out d = some l → typesA last out d' = some l → d = d'
  | _, [], [], _, _, _, _, _, _ => rfl
  | _, [b], _, last, out, l, _, h, _ => by rw [types_one] at h; cases h
  | _, _, [b], last, out, l, _, _, h => by rw [types_one] at h; cases h
  | _, [], b :: n :: m, last, out, l, _, h, h' => by
    rw [types_end] at h
    obtain rfl := Option.some.inj h
    obtain ⟨h1, h2, h3, h4, h5, h6⟩ := tA_step h'
    obtain ⟨X, hX, hx⟩ := tA_grow _ _ _ _ _ (Nat.le_refl _) h6
    obtain ⟨k, k1, k2, k3⟩ := last_bit (r := m.take n.toNat) (by rw [List.length_take]; omega) h2 (take_last h2 h5)
    have := (mem_block b.toNat _ _).2 ⟨k, k3, rfl⟩
    have e := congrArg List.length hX
    simp only [List.length_append] at e
    have := List.length_pos_of_mem this
    omega
  | _, b :: n :: m, [], last, out, l, _, h', h => by
    rw [types_end] at h
    obtain rfl := Option.some.inj h
    obtain ⟨h1, h2, h3, h4, h5, h6⟩ := tA_step h'
    obtain ⟨X, hX, hx⟩ := tA_grow _ _ _ _ _ (Nat.le_refl _) h6
    obtain ⟨k, k1, k2, k3⟩ := last_bit (r := m.take n.toNat) (by rw [List.length_take]; omega) h2 (take_last h2 h5)
    have := (mem_block b.toNat _ _).2 ⟨k, k3, rfl⟩
    have e := congrArg List.length hX
    simp only [List.length_append] at e
    have := List.length_pos_of_mem this
    omega
  | 0, b :: n :: m, b' :: n' :: m', last, out, l, hn, _, _ => by simp at hn
  | N + 1, b :: n :: m, b' :: n' :: m', last, out, l, hn, h, h' => by
    obtain ⟨h1, h2, h3, h4, h5, h6⟩ := tA_step h
    obtain ⟨g1, g2, g3, g4, g5, g6⟩ := tA_step h'
    obtain ⟨X, hX, hx⟩ := tA_grow _ _ _ _ _ (Nat.le_refl _) h6
    obtain ⟨X', hX', hx'⟩ := tA_grow _ _ _ _ _ (Nat.le_refl _) g6
    have hE : blockL b.toNat (m.take n.toNat) ++ X = blockL b'.toNat (m'.take n'.toNat) ++ X' := by
      have := hX.symm.trans hX'
      rw [List.append_assoc, List.append_assoc] at this
      exact List.append_cancel_left this
    have hr : (m.take n.toNat).length = n.toNat := by rw [List.length_take]; omega
    have hr' : (m'.take n'.toNat).length = n'.toNat := by rw [List.length_take]; omega
    have hbb : b.toNat = b'.toNat := by
      obtain ⟨k, k1, k2, k3⟩ := last_bit hr h2 (take_last h2 h5)
      obtain ⟨j, j1, j2, j3⟩ := last_bit hr' g2 (take_last g2 g5)
      have m1 : b.toNat * 256 + k ∈ blockL b.toNat (m.take n.toNat) ++ X := List.mem_append_left _ ((mem_block _ _ _).2 ⟨k, k3, rfl⟩)
      have m2 : b'.toNat * 256 + j ∈ blockL b'.toNat (m'.take n'.toNat) ++ X' := List.mem_append_left _ ((mem_block _ _ _).2 ⟨j, j3, rfl⟩)
      have l1 := blk_low hx' _ (hE ▸ m1)
      have l2 := blk_low hx _ (hE.symm ▸ m2)
      omega
    have hbe : b = b' := UInt8.toNat_inj.1 hbb
    subst hbe
    have hrow : m.take n.toNat = m'.take n'.toNat := rows_same hr hr' h2 g2 (take_last h2 h5) (take_last g2 g5) (fun k => by
      rcases Nat.lt_or_ge k 256 with hk | hk
      · rw [← blk_bit hk hx, hE, blk_bit hk hx']
      · rw [bitOf_out (by rw [hr]; omega), bitOf_out (by rw [hr']; omega)])
    have hnn : n.toNat = n'.toNat := by rw [← hr, ← hr', hrow]
    have hne : n = n' := UInt8.toNat_inj.1 hnn
    subst hne
    rw [← hrow] at g6
    have hd := types_inj N _ _ _ _ _ (by rw [List.length_drop]; simp only [List.length_cons] at hn; omega) h6 g6
    rw [show m = m.take n.toNat ++ m.drop n.toNat from (List.take_append_drop _ _).symm, hrow, hd, List.take_append_drop]
theorem set_inj {d d' : Bs} {l : List Nat} (h : typesS d = some l) (h' : typesS d' = some l) : d = d' := by
  rw [typesS_eq] at h h'
  have e : ∀ x : Bs, (match typesA (-1) [] x with | none => none | some l => if 0 ∈ l then none else some l) = some l → typesA (-1) [] x = some l := by
    intro x hx
    cases hc : typesA (-1) [] x with
    | none => rw [hc] at hx; cases hx
    | some k =>
      rw [hc] at hx
      dsimp only at hx
      split at hx
      · cases hx
      · exact congrArg some (Option.some.inj hx)
  exact types_inj _ d d' (-1) [] l (Nat.le_refl _) (e d h) (e d' h')
end Go.Proofs.YtjejmgdpjfdhjaaDoor.setI
