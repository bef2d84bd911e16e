/- The fields of a type: data.form: walk. Sets of types: plain. Bytes as a number: seal.number, gazetteerref1.Value: walks. Bytes as a number: data.small: walk. How many bytes a field takes: the short ones of data: walks. data.Types: walk. How many bytes a set of types takes: data.kinds.take: walk. The name that stands first: plain. How many bytes a name takes: data.host.take: walk. How many bytes a row of texts takes: data.texts.take: walk. -/
import Derived.Test.YtnamkladeaohoaaK16
import Derived.Test.YtnamkladeaohoaaK7
import Derived.Test.YtnamkladeaohoaaK5
import Derived.Test.YtnamkladeaohoaaK11
import Derived.Below
namespace Go.Proofs.Ytnamkladeaohoaa.formW
open Go.RowKit Go.Proofs.Ytnamkladeaohoaa.kit Go.Proofs.Ytnamkladeaohoaa.nspec Go.Proofs.Ytnamkladeaohoaa.fld
set_option linter.unusedVariables false

end Go.Proofs.Ytnamkladeaohoaa.formW
namespace Go.Proofs.Ytnamkladeaohoaa.typesP
open Go.Proofs.Ytnamkladeaohoaa.nspec Go.Proofs.Ytnamkladeaohoaa.bits Go.Proofs.Ytnamkladeaohoaa.fld
set_option linter.unusedVariables false

theorem tob_get : ∀ (v n j : Nat), j < n → (tob v n)[j]? = some (v / 2 ^ (n - 1 - j) % 2)
  | v, 0, j, h => by omega
  | v, n + 1, 0, h => by simp [tob]
  | v, n + 1, j + 1, h => by
    rw [tob, List.getElem?_cons_succ, tob_get v n j (by omega)]
    congr 4; omega
theorem bitsL_get : ∀ (m : Bs) (k : Nat), k < 8 * m.length → (bitsL m)[k]? = some ((m.getD (k / 8) 0).toNat / 2 ^ (7 - k % 8) % 2)
  | [], k, h => by simp at h
  | c :: r, k, h => by
    rw [bits_cons]
    have hl : (tob c.toNat 8).length = 8 := tob_length _ _
    rcases Nat.lt_or_ge k 8 with h8 | h8
    · rw [List.getElem?_append_left (by omega), tob_get _ _ _ h8]
      have e1 : k / 8 = 0 := by omega
      have e2 : k % 8 = k := by omega
      rw [e1, e2]; simp
    · rw [List.getElem?_append_right (by omega), hl, bitsL_get r (k - 8) (by simp only [List.length_cons] at h; omega)]
      have e1 : k / 8 = (k - 8) / 8 + 1 := by omega
      have e2 : k % 8 = (k - 8) % 8 := by omega
      rw [e1, e2]; simp

def typesA (last : Int) (out : List Nat) (d : Bs) : Option (List Nat) := typesF (d.length + 1) last out d
theorem types_end (last : Int) (out : List Nat) : typesA last out [] = some out := rfl
theorem types_one (last : Int) (out : List Nat) (b : UInt8) : typesA last out [b] = none := rfl
theorem types_bad {last : Int} {out : List Nat} {b n : UInt8} {m : Bs} (h : (b.toNat : Int) ≤ last ∨ n.toNat < 1 ∨ 32 < n.toNat ∨ m.length < n.toNat ∨ m.getD (n.toNat - 1) 0 = 0) : typesA last out (b :: n :: m) = none := by
  unfold typesA; rw [List.length_cons, typesF, if_pos h]
theorem types_go {last : Int} {out : List Nat} {b n : UInt8} {m : Bs} (h : ¬ ((b.toNat : Int) ≤ last ∨ n.toNat < 1 ∨ 32 < n.toNat ∨ m.length < n.toNat ∨ m.getD (n.toNat - 1) 0 = 0)) :
    typesA last out (b :: n :: m) = typesA (b.toNat : Int) (out ++ blockL b.toNat (m.take n.toNat)) (m.drop n.toNat) := by
  unfold typesA; rw [List.length_cons, typesF, if_neg h]
  exact types_fuel _ _ _ _ _ (by simp only [List.length_cons, List.length_drop]; omega) (by omega)
theorem typesS_eq (d : Bs) : typesS d = match typesA (-1) [] d with | none => none | some l => if 0 ∈ l then none else some l := rfl

theorem pick_bd : ∀ (l : List Nat) (b k : Nat), (∀ x ∈ pickL b k l, b * 256 + k ≤ x ∧ x < b * 256 + k + l.length) ∧ (pickL b k l).Pairwise (· < ·)
  | [], b, k => by simp [pickL]
  | x :: l, b, k => by
    have ⟨h1, h2⟩ := pick_bd l b (k + 1)
    simp only [pickL, List.length_cons]
    split
    · refine ⟨fun y hy => ?_, ?_⟩
      · rcases List.mem_cons.1 hy with rfl | hy
        · omega
        · have := h1 y hy; omega
      · rw [List.pairwise_cons]
        exact ⟨fun y hy => by have := h1 y hy; omega, h2⟩
    · exact ⟨fun y hy => by have := h1 y hy; omega, h2⟩
theorem pick_len : ∀ (l : List Nat) (b k : Nat), (pickL b k l).length ≤ l.length
  | [], b, k => by simp [pickL]
  | x :: l, b, k => by
    have := pick_len l b (k + 1)
    simp only [pickL, List.length_cons]
    split
    · rw [List.length_cons]; omega
    · omega
theorem pick_snoc {b k : Nat} {l : List Nat} {x : Nat} {A R : List Nat} (h : A ++ pickL b k (l.drop k) = R) (hx : l[k]? = some x) : (A ++ (if x = 1 then [b * 256 + k] else [])) ++ pickL b (k + 1) (l.drop (k + 1)) = R := by
  obtain ⟨h1, h2⟩ := List.getElem?_eq_some_iff.1 hx
  rw [List.drop_eq_getElem_cons h1, h2, pickL] at h
  rw [← h]
  split <;> simp
theorem pick_end {b k : Nat} {l : List Nat} {A R : List Nat} (h : A ++ pickL b k (l.drop k) = R) (hk : l.length ≤ k) : A = R := by
  rw [List.drop_eq_nil_iff.2 hk] at h; simpa [pickL] using h

theorem types_sorted : ∀ (f : Nat) (last : Int) (out : List Nat) (d : Bs) (l : List Nat), typesF f last out d = some l → out.Pairwise (· < ·) → (∀ x ∈ out, (x : Int) < 256 * (last + 1)) → -1 ≤ last → last ≤ 255 → l.Pairwise (· < ·) ∧ (∀ x ∈ l, x < 65536)
  | 0, last, out, d, l, h, _, _, _, _ => by simp [typesF] at h
  | f + 1, last, out, [], l, h, h1, h2, h3, h4 => by
    simp only [typesF, Option.some.injEq] at h
    subst h
    exact ⟨h1, fun x hx => by have := h2 x hx; omega⟩
  | f + 1, last, out, [b], l, h, _, _, _, _ => by simp [typesF] at h
  | f + 1, last, out, b :: n :: m, l, h, h1, h2, h3, h4 => by
    simp only [typesF] at h
    split at h
    · simp at h
    · rename_i hn
      have hb := b.toNat_lt
      have hbl : last < (b.toNat : Int) := by omega
      have hn32 : n.toNat ≤ 32 := by omega
      obtain ⟨p1, p2⟩ := pick_bd (bitsL (m.take n.toNat)) b.toNat 0
      have hlen : (bitsL (m.take n.toNat)).length ≤ 256 := by rw [bitsL_len, List.length_take]; omega
      refine types_sorted f _ _ _ l h ?_ ?_ (by omega) (by omega)
      · rw [List.pairwise_append]
        refine ⟨h1, p2, fun x hx y hy => ?_⟩
        have := h2 x hx
        have := p1 y hy
        omega
      · intro x hx
        rcases List.mem_append.1 hx with hx | hx
        · have := h2 x hx; omega
        · have := p1 x hx; omega
theorem sorted_of {d : Bs} {l : List Nat} (h : typesA (-1) [] d = some l) : l.Pairwise (· < ·) ∧ (∀ x ∈ l, x < 65536) :=
  types_sorted _ _ _ _ _ h (by simp) (by simp) (by omega) (by omega)
theorem zero_head {l : List Nat} (h : l.Pairwise (· < ·)) : 0 ∈ l ↔ l.head? = some 0 := by
  cases l with
  | nil => simp
  | cons x r =>
    rw [List.pairwise_cons] at h
    simp only [List.mem_cons, List.head?_cons, Option.some.injEq]
    constructor
    · rintro (h0 | h0)
      · exact h0.symm
      · have := h.1 0 h0; omega
    · intro h0; exact .inl h0.symm
theorem types_len : ∀ (f : Nat) (last : Int) (out : List Nat) (d : Bs) (l : List Nat), typesF f last out d = some l → l.length ≤ out.length + 8 * d.length
  | 0, last, out, d, l, h => by simp [typesF] at h
  | f + 1, last, out, [], l, h => by simp only [typesF, Option.some.injEq] at h; subst h; simp
  | f + 1, last, out, [b], l, h => by simp [typesF] at h
  | f + 1, last, out, b :: n :: m, l, h => by
    simp only [typesF] at h
    split at h
    · simp at h
    · rename_i hn
      have := types_len f _ _ _ l h
      have hp := pick_len (bitsL (m.take n.toNat)) b.toNat 0
      rw [bitsL_len, List.length_take] at hp
      simp only [blockL, List.length_append, List.length_drop, List.length_cons] at *
      omega
end Go.Proofs.Ytnamkladeaohoaa.typesP
namespace Go.Proofs.Ytnamkladeaohoaa.val
open Go.RowKit Go.Proofs.Ytnamkladeaohoaa.kit
set_option linter.unusedVariables false

def valL : List UInt8 → Nat → Nat
  | [], v => v
  | c :: r, v => valL r (v * 256 + c.toNat)
theorem wraps62 (n : Int) (h₀ : 0 ≤ n) (h₁ : n < 2 ^ 62) : IntKind.i64.wrap n = n := by rw [IntKind.wrap_i64]; omega
theorem or8b {x y : Int} (hx₀ : 0 ≤ x) (hx : x % 256 = 0) (hx₁ : x < 4611686018427387904) (h₀ : 0 ≤ y) (h₁ : y < 256) : bits .or .i64 x y = x + y :=
  bits_join .i64 62 (by decide) wraps62 8 x y hx₀ hx hx₁ h₀ h₁ (by omega)

end Go.Proofs.Ytnamkladeaohoaa.val
namespace Go.Proofs.Ytnamkladeaohoaa.small
open Go.RowKit Go.Proofs.Ytnamkladeaohoaa.kit Go.Proofs.Ytnamkladeaohoaa.val
set_option linter.unusedVariables false

end Go.Proofs.Ytnamkladeaohoaa.small
namespace Go.Proofs.Ytnamkladeaohoaa.takes
open Go.RowKit Go.Proofs.Ytnamkladeaohoaa.kit Go.Proofs.Ytnamkladeaohoaa.nspec Go.Proofs.Ytnamkladeaohoaa.val Go.Proofs.Ytnamkladeaohoaa.small Go.Proofs.Ytnamkladeaohoaa.fld
set_option linter.unusedVariables false

theorem emp_yes {s : ByteArray} (h : s.size = 0) : s.toList = [] := by rw [Lib.toList_data]; exact List.eq_nil_of_length_eq_zero (by rw [size_len]; exact h)
theorem emp_no {s : ByteArray} (h : 0 < s.size) : s.toList.isEmpty = false := by
  rw [Lib.toList_data]
  cases hl : s.data.toList with
  | nil => have h3 : s.size = 0 := by rw [← size_len, hl]; rfl
           omega
  | cons => rfl
theorem data_cons {s : ByteArray} (h : 0 < s.size) : s.data.toList = s[0] :: s.data.toList.drop 1 := by have := drop_cons s 0 h; simpa using this
theorem rest_len {s : ByteArray} (h : 0 < s.size) : (s.data.toList.drop 1).length = s.size - 1 := by rw [List.length_drop, size_len]

theorem textS_at {s : ByteArray} (h : 0 < s.size) : textS s.data.toList = if (s.size : Int) ≤ (s[0].toNat : Int) then -1 else 1 + (s[0].toNat : Int) := by
  have hl := rest_len h
  rw [data_cons h]
  simp only [textS]
  by_cases h2 : (s.size : Int) ≤ (s[0].toNat : Int)
  · rw [if_pos (by omega), if_pos h2]
  · rw [if_neg (by omega), if_neg h2]; omega
theorem kind_at {s : ByteArray} (h : 2 ≤ s.size) : takeS .kind s.data.toList = if valL (s.extract 0 2).data.toList 0 = 0 then -1 else 2 := by
  have hl : 2 ≤ s.data.toList.length := by rw [size_len]; exact h
  have he : (s.extract 0 2).data.toList = s.data.toList.take 2 := by rw [Lib.extract_data]; rfl
  rw [he]
  match hd : s.data.toList, hl with
  | a :: b :: r, _ =>
    have ha := a.toNat_lt
    have hb := b.toNat_lt
    simp only [takeS, List.take_succ_cons, List.take_zero, valL, List.length_cons, List.getD_cons_zero, List.getD_cons_succ]
    by_cases h0 : a = 0 ∧ b = 0
    · rw [if_pos (.inr h0), if_pos (by rw [h0.1, h0.2]; rfl)]
    · have hn : ¬ (r.length + 1 + 1 < 2 ∨ (a = 0 ∧ b = 0)) := by
        rintro (h | h)
        · omega
        · exact h0 h
      rw [if_neg hn, if_neg]
      intro h1
      apply h0
      exact ⟨UInt8.toNat_inj.1 (by simp; omega), UInt8.toNat_inj.1 (by simp; omega)⟩
end Go.Proofs.Ytnamkladeaohoaa.takes
namespace Go.Proofs.Ytnamkladeaohoaa.typesW
open Go.RowKit Go.Proofs.Ytnamkladeaohoaa.kit Go.Proofs.Ytnamkladeaohoaa.nspec Go.Proofs.Ytnamkladeaohoaa.bits Go.Proofs.Ytnamkladeaohoaa.ints Go.Proofs.Ytnamkladeaohoaa.fld Go.Proofs.Ytnamkladeaohoaa.typesP Go.Proofs.Ytnamkladeaohoaa.takes
set_option linter.unusedVariables false

/-- what Types leaves -/
def TypesPost (w : World) (d : Bs) (e : Ending) (w' : World) : Prop := Below w.heap.size w w' ∧ ((∃ (v : Value) (l : List Nat), typesS d = some l ∧ e = .returned (.tuple #[v, .int .i64 0]) ∧ w'.ownsRow w.heap.size 3 1 v l.length (l.map bitV)) ∨ (typesS d = none ∧ e = .returned (.tuple #[.slice none 0 0, .int .i64 7])))

theorem u_two {u : ByteArray} (h : 2 ≤ u.size) : u.data.toList = u[0] :: u[1] :: u.data.toList.drop 2 := by
  have h1 := drop_cons u 0 (by omega)
  have h2 := drop_cons u 1 (by omega)
  rw [List.drop_zero] at h1
  rw [h1, h2]; rfl
theorem getD_ext {u : ByteArray} (j : Nat) (h : 2 + j < u.size) : (u.data.toList.drop 2).getD j 0 = u[2 + j] := by
  rw [List.getD_eq_getElem?_getD, List.getElem?_drop]
  have h' : 2 + j < u.data.toList.length := by rw [size_len]; exact h
  rw [List.getElem?_eq_getElem h']; rfl

theorem res_none {d : Bs} {R : Option (List Nat)} (h : typesA (-1) [] d = R) (h2 : R = none) : typesS d = none := by rw [typesS_eq, h, h2]
theorem res_zero {d : Bs} {l : List Nat} (h : typesA (-1) [] d = some l) (h2 : 0 ∈ l) : typesS d = none := by rw [typesS_eq, h]; simp [h2]
theorem res_some {d : Bs} {l : List Nat} (h : typesA (-1) [] d = some l) (h2 : 0 ∉ l) : typesS d = some l := by rw [typesS_eq, h]; simp [h2]
theorem and1 {x : Int} (h₀ : 0 ≤ x) (h₁ : x < 256) : bits .and .u8 x 1 = x % 2 := bits_mask .u8 8 (by decide) (fun n h1 h2 => by rw [IntKind.wrap_u8]; omega) 1 (by decide) x h₀ h₁

end Go.Proofs.Ytnamkladeaohoaa.typesW
namespace Go.Proofs.Ytnamkladeaohoaa.kindsT
open Go.RowKit Go.Proofs.Ytnamkladeaohoaa.kit Go.Proofs.Ytnamkladeaohoaa.nspec Go.Proofs.Ytnamkladeaohoaa.fld Go.Proofs.Ytnamkladeaohoaa.typesW
set_option linter.unusedVariables false

end Go.Proofs.Ytnamkladeaohoaa.kindsT
namespace Go.Proofs.Ytnamkladeaohoaa.hostP
open Go.Proofs.Ytnamkladeaohoaa.kit Go.Proofs.Ytnamkladeaohoaa.nspec Go.Proofs.Ytnamkladeaohoaa.nameA Go.Proofs.Ytnamkladeaohoaa.fld
set_option linter.unusedVariables false

theorem put_head (ls : List Bs) (j : Nat) (h : j ≤ ls.length) : (put ls)[room (ls.take j)]? = some (if h2 : j < ls.length then UInt8.ofNat (ls[j]).length else 0) := by
  have e : (put ls)[room (ls.take j)]? = ((put ls).drop (room (ls.take j)))[0]? := by simp
  rw [e, put_drop]
  by_cases h2 : j < ls.length
  · rw [dif_pos h2, List.drop_eq_getElem_cons h2]; rfl
  · rw [dif_neg h2, List.drop_eq_nil_iff.2 (by omega)]; rfl
theorem room_step (ls : List Bs) (j : Nat) (h : j < ls.length) : room (ls.take (j + 1)) = room (ls.take j) + 1 + (ls[j]).length := by
  rw [List.take_succ_eq_append_getElem h, room_append]; simp [room]; omega
theorem room_le (ls : List Bs) (j : Nat) : room (ls.take j) ≤ room ls := by
  have := room_append (ls.take j) (ls.drop j)
  rw [List.take_append_drop] at this; omega
theorem take_at {d : Bs} {k a : Nat} (ha : a < k) : (d.take k)[a]? = d[a]? := by rw [List.getElem?_take]; simp [ha]

/-- how far the scan has come: at the head of a label of each name that stands first -/
def Scan (d : Bs) (a : Nat) : Prop := ∀ (k : Nat) (ls : List Bs), k ≤ d.length → IsN (d.take k) ls → ∃ j, j ≤ ls.length ∧ a = room (ls.take j)
theorem name_len {d : Bs} {k : Nat} {ls : List Bs} (hk : k ≤ d.length) (h : IsN (d.take k) ls) : k = room ls + 1 := by
  have := congrArg List.length h.1
  rw [put_length, List.length_take] at this; omega
theorem Scan.start (d : Bs) : Scan d 0 := fun k ls _ _ => ⟨0, Nat.zero_le _, rfl⟩
theorem Scan.step {d : Bs} {a : Nat} {c : UInt8} (h : Scan d a) (hc : d[a]? = some c) (h0 : c.toNat ≠ 0) : Scan d (a + (1 + c.toNat)) := by
  intro k ls hk hN
  obtain ⟨j, hj, rfl⟩ := h k ls hk hN
  have hl := name_len hk hN
  have hr := room_le ls j
  have hp := put_head ls j hj
  rw [← hN.1, take_at (by omega), hc] at hp
  by_cases h2 : j < ls.length
  · rw [dif_pos h2] at hp
    have he : c = UInt8.ofNat (ls[j]).length := by simpa using hp
    have hx := hN.2.1 _ (List.getElem_mem h2)
    have hn : c.toNat = (ls[j]).length := by rw [he]; exact nat_of (by omega)
    exact ⟨j + 1, by omega, by rw [room_step ls j h2]; omega⟩
  · rw [dif_neg h2] at hp
    have he : c = 0 := by simpa using hp
    rw [he] at h0; exact absurd rfl h0
theorem host_none {d : Bs} (h : ∀ (k : Nat) (ls : List Bs), k ≤ d.length → ¬ IsN (d.take k) ls) : hostS d = -1 := by
  have : (List.range 256).find? (fun k => (split (d.take k)).isSome) = none := by
    rw [List.find?_eq_none]
    intro k _ hs
    obtain ⟨ls, hls⟩ := Option.isSome_iff_exists.1 hs
    have hN := split_iff.1 hls
    rcases Nat.lt_or_ge d.length k with h1 | h1
    · rw [List.take_of_length_le (by omega)] at hN
      exact h d.length ls (Nat.le_refl _) (by rw [List.take_of_length_le (Nat.le_refl _)]; exact hN)
    · exact h k ls h1 hN
  unfold hostS; rw [this]
theorem host_some {d : Bs} {m : Nat} {ls : List Bs} (hm : m ≤ d.length) (hN : IsN (d.take m) ls) (h : ∀ (k : Nat) (ls : List Bs), k < m → ¬ IsN (d.take k) ls) : hostS d = (m : Int) := by
  have hl := hN.2.2
  rw [List.length_take] at hl
  have : (List.range 256).find? (fun k => (split (d.take k)).isSome) = some m := by
    rw [List.find?_range_eq_some]
    refine ⟨?_, by rw [List.mem_range]; omega, ?_⟩
    · rw [split_iff.2 hN]; rfl
    · intro j hj
      cases hs : split (d.take j) with
      | none => rfl
      | some l => exact absurd (split_iff.1 hs) (h j l hj)
  unfold hostS; rw [this]
theorem Scan.far {d : Bs} {a : Nat} (h : Scan d a) (ha : d.length ≤ a) : hostS d = -1 := by
  refine host_none fun k ls hk hN => ?_
  obtain ⟨j, hj, rfl⟩ := h k ls hk hN
  have := name_len hk hN
  have := room_le ls j
  omega
theorem Scan.no {d : Bs} {a : Nat} (h : Scan d a) (hz : d[a]? = some 0) (hs : split (d.take (a + 1)) = none) : hostS d = -1 := by
  have hlt := (List.getElem?_eq_some_iff.1 hz).1
  refine host_none fun k ls hk hN => ?_
  obtain ⟨j, hj, rfl⟩ := h k ls hk hN
  have hl := name_len hk hN
  have hr := room_le ls j
  have hp := put_head ls j hj
  rw [← hN.1, take_at (by omega), hz] at hp
  by_cases h2 : j < ls.length
  · rw [dif_pos h2] at hp
    have he : (0 : UInt8) = UInt8.ofNat (ls[j]).length := by simpa using hp
    have hx := hN.2.1 _ (List.getElem_mem h2)
    have hn : (0 : UInt8).toNat = (ls[j]).length := by rw [he]; exact nat_of (by omega)
    have : (0 : UInt8).toNat = 0 := rfl
    omega
  · have hje : j = ls.length := by omega
    subst hje
    rw [List.take_of_length_le (Nat.le_refl _)] at hs
    rw [← hl] at hs
    rw [split_iff.2 hN] at hs; simp at hs
theorem Scan.yes {d : Bs} {a : Nat} (h : Scan d a) (ha : a + 1 ≤ d.length) {ls : List Bs} (hN : IsN (d.take (a + 1)) ls) : hostS d = ((a + 1 : Nat) : Int) := by
  refine host_some ha hN fun k l hk hN2 => ?_
  obtain ⟨j, hj, rfl⟩ := h k l (by omega) hN2
  have := name_len (by omega) hN2
  have := room_le l j
  omega
end Go.Proofs.Ytnamkladeaohoaa.hostP
namespace Go.Proofs.Ytnamkladeaohoaa.hostT
open Go.RowKit Go.Proofs.Ytnamkladeaohoaa.kit Go.Proofs.Ytnamkladeaohoaa.check Go.Proofs.Ytnamkladeaohoaa.nspec Go.Proofs.Ytnamkladeaohoaa.rsplit Go.Proofs.Ytnamkladeaohoaa.fld Go.Proofs.Ytnamkladeaohoaa.hostP Go.Proofs.Ytnamkladeaohoaa.takes
set_option linter.unusedVariables false

theorem at_some {s : ByteArray} {a : Nat} {c : UInt8} (h : a < s.size) (hc : s[a] = c) : s.data.toList[a]? = some c := by
  have h' : a < s.data.toList.length := by rw [size_len]; exact h
  rw [List.getElem?_eq_getElem h', ← hc]; rfl
theorem ext0 (s : ByteArray) (n : Nat) : (s.extract 0 n).data.toList = s.data.toList.take n := by rw [Lib.extract_data]; simp

end Go.Proofs.Ytnamkladeaohoaa.hostT
namespace Go.Proofs.Ytnamkladeaohoaa.textsT
open Go.RowKit Go.Proofs.Ytnamkladeaohoaa.kit Go.Proofs.Ytnamkladeaohoaa.nspec Go.Proofs.Ytnamkladeaohoaa.fld Go.Proofs.Ytnamkladeaohoaa.takes
set_option linter.unusedVariables false

def textsA (at0 : Nat) (d : Bs) : Int := textsF (d.length + 1) at0 d
theorem texts_end (at0 : Nat) : textsA at0 [] = if at0 = 0 then -1 else (at0 : Int) := rfl
theorem texts_go {at0 : Nat} {c : UInt8} {r : Bs} (h : c.toNat ≤ r.length) : textsA at0 (c :: r) = textsA (at0 + (1 + c.toNat)) (r.drop c.toNat) := by
  unfold textsA
  rw [List.length_cons, textsF, if_neg (by omega)]
  exact texts_fuel _ _ _ _ (by rw [List.length_drop]; omega) (by omega)
theorem texts_bad {at0 : Nat} {c : UInt8} {r : Bs} (h : r.length < c.toNat) : textsA at0 (c :: r) = -1 := by
  unfold textsA
  rw [List.length_cons, textsF, if_pos h]
theorem ext_end (s : ByteArray) (a : Nat) : (s.extract a s.size).data.toList = s.data.toList.drop a := by
  rw [Lib.extract_data]; rw [List.take_of_length_le (by rw [List.length_drop, size_len]; exact Nat.le_refl _)]

end Go.Proofs.Ytnamkladeaohoaa.textsT
