/- Names in plain Lean: rows of labels and their bytes. -/
import Derived.Test.YtjejmgdpjfdhjaaDoorCheck
namespace Go.Proofs.YtjejmgdpjfdhjaaDoor.nspec
open Go.Proofs.YtjejmgdpjfdhjaaDoor.kit Go.Proofs.YtjejmgdpjfdhjaaDoor.labels Go.Proofs.YtjejmgdpjfdhjaaDoor.check

abbrev Bs := List UInt8
def strV (l : Bs) : Value := .string ⟨l.toArray⟩

def parseF : Nat → Bs → Option (List Bs)
  | 0, _ => none
  | _ + 1, [] => none
  | f + 1, c :: r => if c.toNat = 0 then (if r = [] then some [] else none) else if 63 < c.toNat ∨ r.length < c.toNat then none else (parseF f (r.drop c.toNat)).map (r.take c.toNat :: ·)
def split (l : Bs) : Option (List Bs) := if l.length ≤ 255 then parseF l.length l else none

def put : List Bs → Bs
  | [] => [0]
  | x :: r => UInt8.ofNat x.length :: (x ++ put r)
def okL (ls : List Bs) : Prop := ∀ x ∈ ls, 1 ≤ x.length ∧ x.length ≤ 63

theorem okL_cons {x : Bs} {r : List Bs} : okL (x :: r) ↔ (1 ≤ x.length ∧ x.length ≤ 63) ∧ okL r := by
  simp [okL]
theorem okL_append {x y : List Bs} : okL (x ++ y) ↔ okL x ∧ okL y := by
  simp only [okL, List.mem_append]; exact ⟨fun h => ⟨fun z hz => h z (.inl hz), fun z hz => h z (.inr hz)⟩, fun h z hz => hz.elim (h.1 z) (h.2 z)⟩
theorem okL_drop {x : List Bs} (k : Nat) (h : okL x) : okL (x.drop k) := fun z hz => h z (List.mem_of_mem_drop hz)
theorem okL_take {x : List Bs} (k : Nat) (h : okL x) : okL (x.take k) := fun z hz => h z (List.mem_of_mem_take hz)
theorem put_pos (ls : List Bs) : 0 < (put ls).length := by cases ls <;> simp [put]
theorem nat_of {n : Nat} (h : n ≤ 255) : (UInt8.ofNat n).toNat = n := by
  rw [UInt8.toNat_ofNat']; omega

theorem parse_put : ∀ (f : Nat) (ls : List Bs), okL ls → (put ls).length ≤ f → parseF f (put ls) = some ls
  | 0, ls, _, hf => by have := put_pos ls; omega
  | f + 1, [], _, _ => by simp [put, parseF]
  | f + 1, x :: r, h, hf => by
    obtain ⟨⟨h1, h2⟩, h3⟩ := okL_cons.1 h
    have hn : (UInt8.ofNat x.length).toNat = x.length := nat_of (by omega)
    simp only [put, parseF, hn, List.length_cons, List.length_append] at hf ⊢
    rw [if_neg (by omega), if_neg (by omega)]
    rw [List.drop_left, List.take_left, parse_put f r h3 (by omega)]; rfl
theorem parse_some : ∀ (f : Nat) (l : Bs) (ls : List Bs), parseF f l = some ls → l = put ls ∧ okL ls
  | 0, l, ls, h => by simp [parseF] at h
  | f + 1, [], ls, h => by simp [parseF] at h
  | f + 1, c :: r, ls, h => by
    simp only [parseF] at h
    by_cases h0 : c.toNat = 0
    · rw [if_pos h0] at h
      by_cases hr : r = []
      · rw [if_pos hr] at h
        have : ls = [] := by simpa using h.symm
        subst this; subst hr
        refine ⟨?_, by simp [okL]⟩
        have : c = 0 := UInt8.toNat_inj.1 h0
        simp [put, this]
      · rw [if_neg hr] at h; simp at h
    · rw [if_neg h0] at h
      by_cases hc : 63 < c.toNat ∨ r.length < c.toNat
      · rw [if_pos hc] at h; simp at h
      · rw [if_neg hc] at h
        cases hp : parseF f (r.drop c.toNat) with
        | none => rw [hp] at h; simp at h
        | some ls' =>
          rw [hp] at h
          have : ls = r.take c.toNat :: ls' := by simpa using h.symm
          subst this
          obtain ⟨e, ho⟩ := parse_some f _ _ hp
          have hl : (r.take c.toNat).length = c.toNat := by rw [List.length_take]; omega
          refine ⟨?_, okL_cons.2 ⟨by omega, ho⟩⟩
          simp only [put, hl, ← e, List.take_append_drop]
          congr 1
          simp
theorem parse_fuel : ∀ (f g : Nat) (l : Bs), l.length ≤ f → l.length ≤ g → parseF f l = parseF g l
  | 0, 0, l, _, _ => rfl
  | 0, g + 1, l, h, _ => by
    have : l = [] := List.eq_nil_of_length_eq_zero (by omega)
    subst this; rfl
  | f + 1, 0, l, _, h => by
    have : l = [] := List.eq_nil_of_length_eq_zero (by omega)
    subst this; rfl
  | f + 1, g + 1, [], _, _ => rfl
  | f + 1, g + 1, c :: r, h1, h2 => by
    simp only [parseF, List.length_cons] at h1 h2 ⊢
    by_cases h0 : c.toNat = 0
    · simp [h0]
    · rw [if_neg h0, if_neg h0, parse_fuel f g (r.drop c.toNat) (by simp; omega) (by simp; omega)]

/-- a name and its labels -/
def IsN (l : Bs) (ls : List Bs) : Prop := l = put ls ∧ okL ls ∧ l.length ≤ 255
theorem split_iff {l : Bs} {ls : List Bs} : split l = some ls ↔ IsN l ls := by
  unfold split IsN
  constructor
  · intro h
    by_cases hl : l.length ≤ 255
    · rw [if_pos hl] at h
      obtain ⟨a, b⟩ := parse_some _ _ _ h
      exact ⟨a, b, hl⟩
    · rw [if_neg hl] at h; simp at h
  · rintro ⟨e, ho, hl⟩
    rw [if_pos hl, e]
    exact parse_put _ ls ho (Nat.le_refl _)
theorem split_put {ls : List Bs} (h : okL ls) (hl : (put ls).length ≤ 255) : split (put ls) = some ls := split_iff.2 ⟨rfl, h, hl⟩
theorem put_inj {a b : List Bs} (ha : okL a) (hb : okL b) (h : put a = put b) : a = b := by
  have h1 := parse_put (put a).length a ha (Nat.le_refl _)
  have h2 := parse_put (put a).length b hb (by rw [h]; exact Nat.le_refl _)
  rw [h] at h1 h2
  rw [h2] at h1
  simpa using h1.symm
theorem put_append (a b : List Bs) : put (a ++ b) = a.flatMap (fun x => UInt8.ofNat x.length :: x) ++ put b := by
  induction a with
  | nil => rfl
  | cons x r ih => simp [put, ih]
theorem put_flat (a : List Bs) : put a = a.flatMap (fun x => UInt8.ofNat x.length :: x) ++ [0] := by
  have := put_append a []
  simpa [put] using this
/-- the number of bytes ahead of the last one -/
def room (ls : List Bs) : Nat := (ls.map (fun x => x.length + 1)).sum
theorem put_length (ls : List Bs) : (put ls).length = room ls + 1 := by
  induction ls with
  | nil => rfl
  | cons x r ih => simp [put, room] at ih ⊢; omega
theorem room_append (a b : List Bs) : room (a ++ b) = room a + room b := by simp [room]

/-- the pairs of a name -/
def pairsL : Nat → List Bs → List (Nat × ByteArray)
  | k, [] => [(k, ⟨[].toArray⟩)]
  | k, x :: r => (k, ⟨x.toArray⟩) :: pairsL (k + 1 + x.length) r
theorem pairs_put : ∀ (f k : Nat) (ls : List Bs), okL ls → (put ls).length ≤ f → pairsF f k (put ls) = pairsL k ls
  | 0, k, ls, _, hf => by have := put_pos ls; omega
  | f + 1, k, [], _, _ => by simp [put, pairsF, pairsL]
  | f + 1, k, x :: r, h, hf => by
    obtain ⟨⟨h1, h2⟩, h3⟩ := okL_cons.1 h
    have hn : (UInt8.ofNat x.length).toNat = x.length := nat_of (by omega)
    simp only [put, pairsF, pairsL, hn, List.length_cons, List.length_append] at hf ⊢
    rw [if_neg (by omega), if_neg (by omega), List.drop_left, List.take_left, pairs_put f _ r h3 (by omega)]
theorem pairs_isN {s : ByteArray} {ls : List Bs} (h : IsN s.data.toList ls) : pairs s = pairsL 0 ls := by
  obtain ⟨e, ho, _⟩ := h
  unfold pairs
  rw [e]
  exact pairs_put _ 0 ls ho (by rw [← e]; simp)
theorem ends_iff : ∀ (f k : Nat) (l : Bs), l.length ≤ f → (pairsF f k l).any (ends (k + l.length)) = (parseF f l).isSome
  | 0, k, l, h => by simp [pairsF, parseF]
  | f + 1, k, [], h => by simp [pairsF, parseF]
  | f + 1, k, c :: r, h => by
    simp only [pairsF, parseF, List.length_cons] at h ⊢
    by_cases h0 : c.toNat = 0
    · rw [if_neg (by omega), if_pos h0, if_pos h0]
      simp only [h0, List.take_zero, List.any_cons, List.any_nil, Bool.or_false, ends]
      by_cases hr : r = []
      · subst hr
        rw [if_pos rfl, Lib.toList_data]; simp <;> omega
      · rw [if_neg hr]
        have : 0 < r.length := List.length_pos_iff.2 hr
        rw [decide_eq_false (by omega)]; simp
    · by_cases hc : 63 < c.toNat ∨ r.length < c.toNat
      · rw [if_pos hc, if_neg h0, if_pos hc]; rfl
      · rw [if_neg hc, if_neg h0, if_neg hc]
        have ih := ends_iff f (k + 1 + c.toNat) (r.drop c.toNat) (by simp; omega)
        have e : k + 1 + c.toNat + (r.drop c.toNat).length = k + (r.length + 1) := by rw [List.length_drop]; omega
        rw [e] at ih
        simp only [List.any_cons, ih]
        have hne : ends (k + (r.length + 1)) (k, ⟨(r.take c.toNat).toArray⟩) = false := by
          simp only [ends, Lib.toList_data]
          have : (r.take c.toNat) ≠ [] := by
            intro e2
            have := congrArg List.length e2
            rw [List.length_take, List.length_nil] at this; omega
          have e3 : (r.take c.toNat).isEmpty = false := by simpa using this
          simp only [e3, Bool.false_and]
        rw [hne]
        simp only [if_neg h0]
        cases parseF f (r.drop c.toNat) <;> rfl
theorem chk_eq (s : ByteArray) : chkE s = if (split s.data.toList).isSome then 0 else 1 := by
  have hsz := size_len s
  unfold chkE split
  rw [hsz]
  by_cases h : 255 < s.size
  · have h' : ¬ s.size ≤ 255 := by omega
    simp [h, h']
  · have h' : s.size ≤ 255 := by omega
    have := ends_iff s.size 0 s.data.toList (by omega)
    rw [show 0 + s.data.toList.length = s.size from by omega] at this
    simp only [if_neg h, if_pos h', ← this]; rfl
theorem chk_yes {s : ByteArray} {ls : List Bs} (h : IsN s.data.toList ls) : chkE s = 0 := by
  rw [chk_eq, split_iff.2 h]; rfl
theorem chk_no {s : ByteArray} (h : split s.data.toList = none) : chkE s = 1 := by
  rw [chk_eq, h]; rfl
theorem isN_put {ls : List Bs} (h : okL ls) (hl : room ls ≤ 254) : IsN (put ls) ls := ⟨rfl, h, by rw [put_length]; omega⟩
theorem isN_room {l : Bs} {ls : List Bs} (h : IsN l ls) : room ls ≤ 254 := by
  have := h.2.2; rw [h.1, put_length] at this; omega
theorem isN_inj {l : Bs} {a b : List Bs} (h : IsN l a) (k : IsN l b) : a = b := put_inj h.2.1 k.2.1 (h.1.symm.trans k.1)
end Go.Proofs.YtjejmgdpjfdhjaaDoor.nspec
