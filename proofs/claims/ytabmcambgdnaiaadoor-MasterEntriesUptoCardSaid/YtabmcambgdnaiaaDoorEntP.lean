/- The entries of a text, in plain words. -/
import Derived.Test.YtabmcambgdnaiaaDoorKit
namespace Go.Proofs.YtabmcambgdnaiaaDoor.entP
set_option linter.unusedVariables false
abbrev Bt := List UInt8

def blankB (c : UInt8) : Bool := c == 32 || c == 9 || c == 13
/-- what ends a word: in quotes, or not -/
def stopB (q : Bool) (c : UInt8) : Bool := if q then c == 34 || c == 10 else blankB c || c == 10 || c == 59 || c == 40 || c == 41 || c == 34
/-- how long the word is that begins here; none: a backslash is its end -/
def wordE (q : Bool) : Bt → Option Nat
  | [] => some 0
  | [c] => if stopB q c then some 0 else if c = 92 then none else some 1
  | c :: d :: r => if stopB q c then some 0 else if c = 92 then (if d = 10 then none else (wordE q r).map (· + 2)) else (wordE q (d :: r)).map (· + 1)
/-- where the word ends that begins at k -/
def wordAt (q : Bool) (t : Bt) (k : Nat) : Option Nat := (wordE q (t.drop k)).map (· + k)
theorem slash_no (q : Bool) : stopB q 92 = false := by cases q <;> rfl
theorem drop_at {t : Bt} {j : Nat} {c : UInt8} (h : t[j]? = some c) : t.drop j = c :: t.drop (j + 1) := by
  obtain ⟨h1, rfl⟩ := List.getElem?_eq_some_iff.1 h
  exact List.drop_eq_getElem_cons h1
theorem word_end {q : Bool} {t : Bt} {j : Nat} (h : t.length ≤ j) : wordAt q t j = some j := by
  unfold wordAt; rw [List.drop_eq_nil_of_le h]; simp [wordE]
theorem wordE_stop {q : Bool} {c : UInt8} {r : Bt} (hs : stopB q c = true) : wordE q (c :: r) = some 0 := by
  cases r with
  | nil => simp [wordE, hs]
  | cons d r => simp [wordE, hs]
theorem word_stop {q : Bool} {t : Bt} {j : Nat} {c : UInt8} (h : t[j]? = some c) (hs : stopB q c = true) : wordAt q t j = some j := by
  unfold wordAt; rw [drop_at h, wordE_stop hs]; simp
theorem wordE_plain {q : Bool} {c : UInt8} {r : Bt} (hs : stopB q c = false) (hc : c ≠ 92) : wordE q (c :: r) = (wordE q r).map (· + 1) := by
  cases r with
  | nil => simp [wordE, hs, hc]
  | cons d r => simp [wordE, hs, hc]
theorem word_plain {q : Bool} {t : Bt} {j : Nat} {c : UInt8} (h : t[j]? = some c) (hs : stopB q c = false) (hc : c ≠ 92) : wordAt q t j = wordAt q t (j + 1) := by
  unfold wordAt; rw [drop_at h, wordE_plain hs hc, Option.map_map]
  congr 1; funext n; show n + 1 + j = n + (j + 1); omega
theorem word_esc {q : Bool} {t : Bt} {j : Nat} {d : UInt8} (h : t[j]? = some 92) (h2 : t[j + 1]? = some d) (hd : d ≠ 10) : wordAt q t j = wordAt q t (j + 2) := by
  unfold wordAt; rw [drop_at h, drop_at h2]
  simp only [wordE, slash_no, Bool.false_eq_true, if_false, if_true, if_neg hd, Option.map_map]
  congr 1; funext n; show n + 2 + j = n + (j + 2); omega
theorem word_bad1 {q : Bool} {t : Bt} {j : Nat} (h : t[j]? = some 92) (h2 : t.length ≤ j + 1) : wordAt q t j = none := by
  unfold wordAt; rw [drop_at h, List.drop_eq_nil_of_le h2]
  simp [wordE, slash_no]
theorem word_bad2 {q : Bool} {t : Bt} {j : Nat} (h : t[j]? = some 92) (h2 : t[j + 1]? = some 10) : wordAt q t j = none := by
  unfold wordAt; rw [drop_at h, drop_at h2]
  simp [wordE, slash_no]
/-- a word ends within the text, not ahead of its beginning -/
theorem wordE_len (q : Bool) : ∀ (l : Bt) (n : Nat), wordE q l = some n → n ≤ l.length
  | [], n, h => by simp [wordE] at h; omega
  | [c], n, h => by
    simp only [wordE] at h
    split at h
    · simp at h; simp only [List.length_cons, List.length_nil]; omega
    · split at h
      · cases h
      · simp at h; simp only [List.length_cons, List.length_nil]; omega
  | c :: d :: r, n, h => by
    simp only [wordE] at h
    split at h
    · simp at h; omega
    · split at h
      · split at h
        · cases h
        · obtain ⟨m, hm, rfl⟩ := Option.map_eq_some_iff.1 h
          have := wordE_len q r m hm
          simp only [List.length_cons]; omega
      · obtain ⟨m, hm, rfl⟩ := Option.map_eq_some_iff.1 h
        have := wordE_len q (d :: r) m hm
        simp only [List.length_cons] at this ⊢; omega
theorem word_le {q : Bool} {t : Bt} {k j : Nat} (hk : k ≤ t.length) (h : wordAt q t k = some j) : k ≤ j ∧ j ≤ t.length := by
  unfold wordAt at h
  obtain ⟨n, hn, rfl⟩ := Option.map_eq_some_iff.1 h
  have := wordE_len q _ n hn
  rw [List.length_drop] at this
  omega
/-- where the remark ends -/
def remE : Bt → Nat
  | [] => 0
  | c :: r => if c = 10 then 0 else remE r + 1
def remAt (t : Bt) (k : Nat) : Nat := remE (t.drop k) + k
theorem rem_end {t : Bt} {j : Nat} (h : t.length ≤ j) : remAt t j = j := by
  unfold remAt; rw [List.drop_eq_nil_of_le h]; simp [remE]
theorem rem_stop {t : Bt} {j : Nat} (h : t[j]? = some 10) : remAt t j = j := by
  unfold remAt; rw [drop_at h]; simp [remE]
theorem rem_step {t : Bt} {j : Nat} {c : UInt8} (h : t[j]? = some c) (hc : c ≠ 10) : remAt t j = remAt t (j + 1) := by
  unfold remAt; rw [drop_at h]; simp only [remE, if_neg hc]; omega
theorem remE_len : ∀ l : Bt, remE l ≤ l.length
  | [] => Nat.le_refl _
  | c :: r => by
    have := remE_len r
    unfold remE; split
    · omega
    · simp only [List.length_cons]; omega
theorem rem_le {t : Bt} {k : Nat} (hk : k ≤ t.length) : k ≤ remAt t k ∧ remAt t k ≤ t.length := by
  unfold remAt
  have := remE_len (t.drop k)
  rw [List.length_drop] at this
  omega
/-- words, entries -/
structure Wd where
  t : Bt
  q : Bool
structure En where
  line : Int
  blank : Bool
  words : List Wd
/-- what is under way -/
structure Es where
  line : Int
  opn : Int
  out : List En
  now : En
def freshE (t : Bt) (k : Nat) (line : Int) : En := ⟨line, (match t[k]? with | some c => blankB c | none => false), []⟩
def flushE (out : List En) (now : En) : List En := if now.words.isEmpty then out else out ++ [now]
def pushE (s : Es) (x : Bt) (q : Bool) : Es := { s with now := { s.now with words := s.now.words ++ [⟨x, q⟩] } }
def cutE (t : Bt) (k j : Nat) : Bt := (t.drop k).take (j - k)
/-- the entries, the fault's code and line: codes CT (a text) and CE (the end) -/
def scanE (CT CE : Int) (t : Bt) : Nat → Nat → Es → List En × Int × Int
  | 0, _, _ => ([], 0, 0)
  | g + 1, k, s => match t[k]? with
    | none => if 0 < s.opn then ([], CE, s.opn) else (flushE s.out s.now, 0, 0)
    | some c =>
      if c = 10 then
        (if s.opn = 0 then scanE CT CE t g (k + 1) ⟨s.line + 1, s.opn, flushE s.out s.now, freshE t (k + 1) (s.line + 1)⟩ else scanE CT CE t g (k + 1) { s with line := s.line + 1 })
      else if blankB c then scanE CT CE t g (k + 1) s
      else if c = 59 then scanE CT CE t g (remAt t (k + 1)) s
      else if c = 40 then (if s.opn = 0 then scanE CT CE t g (k + 1) { s with opn := s.line } else ([], CT, s.line))
      else if c = 41 then (if s.opn = 0 then ([], CT, s.line) else scanE CT CE t g (k + 1) { s with opn := 0 })
      else if c = 34 then (match wordAt true t (k + 1) with
        | none => ([], CT, s.line)
        | some j => if t[j]? = some 34 then scanE CT CE t g (j + 1) (pushE s (cutE t (k + 1) j) true) else ([], CT, s.line))
      else (match wordAt false t k with
        | none => ([], CT, s.line)
        | some j => scanE CT CE t g j (pushE s (cutE t k j) false))
def entE (CT CE : Int) (t : Bt) : List En × Int × Int := scanE CT CE t (t.length + 1) 0 ⟨1, 0, [], freshE t 0 1⟩
section
variable {CT CE : Int} {t : Bt} {g k : Nat} {s : Es} {c : UInt8}
theorem sc_end1 (h : t.length ≤ k) (ho : 0 < s.opn) : scanE CT CE t (g + 1) k s = ([], CE, s.opn) := by
  simp [scanE, List.getElem?_eq_none h, ho]
theorem sc_end2 (h : t.length ≤ k) (ho : ¬ 0 < s.opn) : scanE CT CE t (g + 1) k s = (flushE s.out s.now, 0, 0) := by
  simp [scanE, List.getElem?_eq_none h, ho]
theorem sc_nl0 (h : t[k]? = some 10) (ho : s.opn = 0) : scanE CT CE t (g + 1) k s = scanE CT CE t g (k + 1) ⟨s.line + 1, s.opn, flushE s.out s.now, freshE t (k + 1) (s.line + 1)⟩ := by
  simp [scanE, h, ho]
theorem sc_nl1 (h : t[k]? = some 10) (ho : s.opn ≠ 0) : scanE CT CE t (g + 1) k s = scanE CT CE t g (k + 1) { s with line := s.line + 1 } := by
  simp [scanE, h, ho]
theorem sc_blank (h : t[k]? = some c) (hb : blankB c = true) : scanE CT CE t (g + 1) k s = scanE CT CE t g (k + 1) s := by
  have h1 : c ≠ 10 := by rintro rfl; cases hb
  simp [scanE, h, h1, hb]
theorem sc_rem (h : t[k]? = some 59) : scanE CT CE t (g + 1) k s = scanE CT CE t g (remAt t (k + 1)) s := by
  simp [scanE, h, blankB]
theorem sc_open0 (h : t[k]? = some 40) (ho : s.opn = 0) : scanE CT CE t (g + 1) k s = scanE CT CE t g (k + 1) { s with opn := s.line } := by
  simp [scanE, h, ho, blankB]
theorem sc_open1 (h : t[k]? = some 40) (ho : s.opn ≠ 0) : scanE CT CE t (g + 1) k s = ([], CT, s.line) := by
  simp [scanE, h, ho, blankB]
theorem sc_close0 (h : t[k]? = some 41) (ho : s.opn = 0) : scanE CT CE t (g + 1) k s = ([], CT, s.line) := by
  simp [scanE, h, ho, blankB]
theorem sc_close1 (h : t[k]? = some 41) (ho : s.opn ≠ 0) : scanE CT CE t (g + 1) k s = scanE CT CE t g (k + 1) { s with opn := 0 } := by
  simp [scanE, h, ho, blankB]
theorem sc_quo0 (h : t[k]? = some 34) (hw : wordAt true t (k + 1) = none) : scanE CT CE t (g + 1) k s = ([], CT, s.line) := by
  simp [scanE, h, hw, blankB]
theorem sc_quo1 {j : Nat} (h : t[k]? = some 34) (hw : wordAt true t (k + 1) = some j) (hj : t[j]? ≠ some 34) : scanE CT CE t (g + 1) k s = ([], CT, s.line) := by
  simp [scanE, h, hw, hj, blankB]
theorem sc_quo2 {j : Nat} (h : t[k]? = some 34) (hw : wordAt true t (k + 1) = some j) (hj : t[j]? = some 34) : scanE CT CE t (g + 1) k s = scanE CT CE t g (j + 1) (pushE s (cutE t (k + 1) j) true) := by
  simp [scanE, h, hw, hj, blankB]
/-- a byte that begins a word without quotes -/
def wordB (c : UInt8) : Prop := stopB false c = false
theorem wordB_ne (hc : stopB false c = false) : c ≠ 10 ∧ blankB c = false ∧ c ≠ 59 ∧ c ≠ 40 ∧ c ≠ 41 ∧ c ≠ 34 := by
  unfold stopB at hc
  simp only [Bool.false_eq_true, if_false, Bool.or_eq_false_iff, beq_eq_false_iff_ne] at hc
  obtain ⟨⟨⟨⟨⟨a, b⟩, c'⟩, d⟩, e⟩, f⟩ := hc
  exact ⟨b, a, c', d, e, f⟩
theorem sc_word0 (h : t[k]? = some c) (hc : stopB false c = false) (hw : wordAt false t k = none) : scanE CT CE t (g + 1) k s = ([], CT, s.line) := by
  obtain ⟨a, b, c', d, e, f⟩ := wordB_ne hc
  simp [scanE, h, hw, a, b, c', d, e, f]
theorem sc_word1 {j : Nat} (h : t[k]? = some c) (hc : stopB false c = false) (hw : wordAt false t k = some j) : scanE CT CE t (g + 1) k s = scanE CT CE t g j (pushE s (cutE t k j) false) := by
  obtain ⟨a, b, c', d, e, f⟩ := wordB_ne hc
  simp [scanE, h, hw, a, b, c', d, e, f]
end
end Go.Proofs.YtabmcambgdnaiaaDoor.entP
