/- Sets of types: plain. -/
import Derived.Test.YtjejmgdpjfdhjaaDoorFldP
namespace Go.Proofs.YtjejmgdpjfdhjaaDoor.typesP
open Go.Proofs.YtjejmgdpjfdhjaaDoor.nspec Go.Proofs.YtjejmgdpjfdhjaaDoor.bits Go.Proofs.YtjejmgdpjfdhjaaDoor.fld
set_option linter.unusedVariables false

theorem tob_get : ∀ (v n j : Nat), j < n → (tob v n)[j]? = some (v / 2 ^ (n - 1 - j) % 2)
  | v, 0, j, h => by omega
  | v, n + 1, 0, h => by simp [tob]
  | v, n + 1, j + 1, h => by
    rw [tob, List.getElem?_cons_succ, tob_get v n j (by omega)]
    congr 4; omega
theorem bitsL_get : ∀ (m : Bs) (k : Nat), k < 8 * m.length → (bitsL m)[k]? = some ((m.getD (k / 8) 0).toNat / 2 ^ (7 - k % 8) % 2)
  | [], k, h => by simp at h
  | c :: r, k, h => by
    rw [bits_cons]
    have hl : (tob c.toNat 8).length = 8 := tob_length _ _
    rcases Nat.lt_or_ge k 8 with h8 | h8
    · rw [List.getElem?_append_left (by omega), tob_get _ _ _ h8]
      have e1 : k / 8 = 0 := by omega
      have e2 : k % 8 = k := by omega
      rw [e1, e2]; simp
    · rw [List.getElem?_append_right (by omega), hl, bitsL_get r (k - 8) (by simp only [List.length_cons] at h; omega)]
      have e1 : k / 8 = (k - 8) / 8 + 1 := by omega
      have e2 : k % 8 = (k - 8) % 8 := by omega
      rw [e1, e2]; simp

def typesA (last : Int) (out : List Nat) (d : Bs) : Option (List Nat) := typesF (d.length + 1) last out d
theorem types_end (last : Int) (out : List Nat) : typesA last out [] = some out := rfl
theorem types_one (last : Int) (out : List Nat) (b : UInt8) : typesA last out [b] = none := rfl
theorem types_bad {last : Int} {out : List Nat} {b n : UInt8} {m : Bs} (h : (b.toNat : Int) ≤ last ∨ n.toNat < 1 ∨ 32 < n.toNat ∨ m.length < n.toNat ∨ m.getD (n.toNat - 1) 0 = 0) : typesA last out (b :: n :: m) = none := by
  unfold typesA; rw [List.length_cons, typesF, if_pos h]
theorem types_go {last : Int} {out : List Nat} {b n : UInt8} {m : Bs} (h : ¬ ((b.toNat : Int) ≤ last ∨ n.toNat < 1 ∨ 32 < n.toNat ∨ m.length < n.toNat ∨ m.getD (n.toNat - 1) 0 = 0)) :
    typesA last out (b :: n :: m) = typesA (b.toNat : Int) (out ++ blockL b.toNat (m.take n.toNat)) (m.drop n.toNat) := by
  unfold typesA; rw [List.length_cons, typesF, if_neg h]
  exact types_fuel _ _ _ _ _ (by simp only [List.length_cons, List.length_drop]; omega) (by omega)
theorem typesS_eq (d : Bs) : typesS d = match typesA (-1) [] d with | none => none | some l => if 0 ∈ l then none else some l := rfl

theorem pick_bd : ∀ (l : List Nat) (b k : Nat), (∀ x ∈ pickL b k l, b * 256 + k ≤ x ∧ x < b * 256 + k + l.length) ∧ (pickL b k l).Pairwise (· < ·)
  | [], b, k => by simp [pickL]
  | x :: l, b, k => by
    have ⟨h1, h2⟩ := pick_bd l b (k + 1)
    simp only [pickL, List.length_cons]
    split
    · refine ⟨fun y hy => ?_, ?_⟩
      · rcases List.mem_cons.1 hy with rfl | hy
        · omega
        · have := h1 y hy; omega
      · rw [List.pairwise_cons]
        exact ⟨fun y hy => by have := h1 y hy; omega, h2⟩
    · exact ⟨fun y hy => by have := h1 y hy; omega, h2⟩
theorem pick_len : ∀ (l : List Nat) (b k : Nat), (pickL b k l).length ≤ l.length
  | [], b, k => by simp [pickL]
  | x :: l, b, k => by
    have := pick_len l b (k + 1)
    simp only [pickL, List.length_cons]
    split
    · rw [List.length_cons]; omega
    · omega
theorem pick_snoc {b k : Nat} {l : List Nat} {x : Nat} {A R : List Nat} (h : A ++ pickL b k (l.drop k) = R) (hx : l[k]? = some x) : (A ++ (if x = 1 then [b * 256 + k] else [])) ++ pickL b (k + 1) (l.drop (k + 1)) = R := by
  obtain ⟨h1, h2⟩ := List.getElem?_eq_some_iff.1 hx
  rw [List.drop_eq_getElem_cons h1, h2, pickL] at h
  rw [← h]
  split <;> simp
theorem pick_end {b k : Nat} {l : List Nat} {A R : List Nat} (h : A ++ pickL b k (l.drop k) = R) (hk : l.length ≤ k) : A = R := by
  rw [List.drop_eq_nil_iff.2 hk] at h; simpa [pickL] using h

theorem types_sorted : ∀ (f : Nat) (last : Int) (out : List Nat) (d : Bs) (l : List Nat), typesF f last out d = some l → out.Pairwise (· < ·) → (∀ x ∈ out, (x : Int) < 256 * (last + 1)) → -1 ≤ last → last ≤ 255 → l.Pairwise (· < ·) ∧ (∀ x ∈ l, x < 65536)
  | 0, last, out, d, l, h, _, _, _, _ => by simp [typesF] at h
  | f + 1, last, out, [], l, h, h1, h2, h3, h4 => by
    simp only [typesF, Option.some.injEq] at h
    subst h
    exact ⟨h1, fun x hx => by have := h2 x hx; omega⟩
  | f + 1, last, out, [b], l, h, _, _, _, _ => by simp [typesF] at h
  | f + 1, last, out, b :: n :: m, l, h, h1, h2, h3, h4 => by
    simp only [typesF] at h
    split at h
    · simp at h
    · rename_i hn
      have hb := b.toNat_lt
      have hbl : last < (b.toNat : Int) := by omega
      have hn32 : n.toNat ≤ 32 := by omega
      obtain ⟨p1, p2⟩ := pick_bd (bitsL (m.take n.toNat)) b.toNat 0
      have hlen : (bitsL (m.take n.toNat)).length ≤ 256 := by rw [bitsL_len, List.length_take]; omega
      refine types_sorted f _ _ _ l h ?_ ?_ (by omega) (by omega)
      · rw [List.pairwise_append]
        refine ⟨h1, p2, fun x hx y hy => ?_⟩
        have := h2 x hx
        have := p1 y hy
        omega
      · intro x hx
        rcases List.mem_append.1 hx with hx | hx
        · have := h2 x hx; omega
        · have := p1 x hx; omega
theorem sorted_of {d : Bs} {l : List Nat} (h : typesA (-1) [] d = some l) : l.Pairwise (· < ·) ∧ (∀ x ∈ l, x < 65536) :=
  types_sorted _ _ _ _ _ h (by simp) (by simp) (by omega) (by omega)
theorem zero_head {l : List Nat} (h : l.Pairwise (· < ·)) : 0 ∈ l ↔ l.head? = some 0 := by
  cases l with
  | nil => simp
  | cons x r =>
    rw [List.pairwise_cons] at h
    simp only [List.mem_cons, List.head?_cons, Option.some.injEq]
    constructor
    · rintro (h0 | h0)
      · exact h0.symm
      · have := h.1 0 h0; omega
    · intro h0; exact .inl h0.symm
theorem types_len : ∀ (f : Nat) (last : Int) (out : List Nat) (d : Bs) (l : List Nat), typesF f last out d = some l → l.length ≤ out.length + 8 * d.length
  | 0, last, out, d, l, h => by simp [typesF] at h
  | f + 1, last, out, [], l, h => by simp only [typesF, Option.some.injEq] at h; subst h; simp
  | f + 1, last, out, [b], l, h => by simp [typesF] at h
  | f + 1, last, out, b :: n :: m, l, h => by
    simp only [typesF] at h
    split at h
    · simp at h
    · rename_i hn
      have := types_len f _ _ _ l h
      have hp := pick_len (bitsL (m.take n.toNat)) b.toNat 0
      rw [bitsL_len, List.length_take] at hp
      simp only [blockL, List.length_append, List.length_drop, List.length_cons] at *
      omega
end Go.Proofs.YtjejmgdpjfdhjaaDoor.typesP
