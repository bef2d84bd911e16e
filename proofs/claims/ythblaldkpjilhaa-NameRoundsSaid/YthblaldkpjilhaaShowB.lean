/- The reference's ShowName: walk. -/
import Derived.Test.YthblaldkpjilhaaShowA
import Derived.Test.YthblaldkpjilhaaRefCmp
namespace Go.Proofs.Ythblaldkpjilhaa.showB
open Go.RowKit Go.Proofs.Ythblaldkpjilhaa.kit Go.Proofs.Ythblaldkpjilhaa.check Go.Proofs.Ythblaldkpjilhaa.nspec Go.Proofs.Ythblaldkpjilhaa.rsplit Go.Proofs.Ythblaldkpjilhaa.low Go.Proofs.Ythblaldkpjilhaa.showA Go.Proofs.Ythblaldkpjilhaa.rcmp Go.Proofs.Ythblaldkpjilhaa.refA

def spec8 : Bs := [46, 92, 34, 40, 41, 59, 64, 36]
def escB (c : UInt8) : Bs := if spec8.contains c then [92, c] else if c.toNat < 33 ∨ 126 < c.toNat then 92 :: escL c else [c]
def labSh (x : Bs) : Bs := x.flatMap escB ++ [46]
def showL (ls : List Bs) : Bs := ls.flatMap labSh
def showS (l : Bs) : Bs := match split l with | none => [] | some [] => [46] | some ls => showL ls
theorem escB_len (c : UInt8) : (escB c).length ≤ 4 := by
  unfold escB
  split
  · simp
  · split
    · simp [escL]
    · simp
theorem esc_len (x : Bs) : (x.flatMap escB).length ≤ 4 * x.length := by
  induction x with
  | nil => simp
  | cons c r ih => have := escB_len c; simp only [List.flatMap_cons, List.length_append, List.length_cons]; omega
theorem show_len (ls : List Bs) : (showL ls).length ≤ 4 * room ls := by
  induction ls with
  | nil => simp [showL]
  | cons x r ih => have := esc_len x; simp only [showL, labSh, room, List.flatMap_cons, List.length_append, List.map_cons, List.sum_cons, List.length_cons, List.length_nil] at *; omega
theorem sh_end {A R : Bs} {ls : List Bs} {k : Nat} (h : A ++ showL (ls.drop k) = R) (hk : ls.length ≤ k) : A = R := by
  rw [List.drop_eq_nil_iff.2 hk] at h; simpa [showL] using h
theorem sh_go {A R x : Bs} {ls : List Bs} {k : Nat} (h : A ++ showL (ls.drop k) = R) (hx : ls[k]? = some x) : A ++ ((x.drop 0).flatMap escB ++ (46 :: showL (ls.drop (k + 1)))) = R := by
  obtain ⟨h3, h4⟩ := List.getElem?_eq_some_iff.1 hx
  rw [List.drop_eq_getElem_cons h3, h4] at h
  rw [← h]; simp [showL, labSh]
theorem in_end {A R T x : Bs} {k : Nat} (h : A ++ ((x.drop k).flatMap escB ++ 46 :: T) = R) (hk : x.length ≤ k) : (A ++ [46]) ++ T = R := by
  rw [List.drop_eq_nil_iff.2 hk] at h; rw [← h]; simp
theorem in_go {A R T x : Bs} {k : Nat} {c : UInt8} (h : A ++ ((x.drop k).flatMap escB ++ 46 :: T) = R) (hc : x[k]? = some c) : (A ++ escB c) ++ ((x.drop (k + 1)).flatMap escB ++ 46 :: T) = R := by
  obtain ⟨h3, h4⟩ := List.getElem?_eq_some_iff.1 hc
  rw [List.drop_eq_getElem_cons h3, h4] at h
  rw [← h]; simp
theorem pre_le {A T R : Bs} (h : A ++ T = R) : A.length ≤ R.length := by rw [← h]; simp

theorem sz1 (C : ByteArray) (c : UInt8) : (C ++ (⟨#[c]⟩ : ByteArray)).size = C.size + 1 := by rw [ByteArray.size_append]; rfl
theorem sz2 (C : ByteArray) (c d : UInt8) : (C ++ ((⟨#[c]⟩ : ByteArray) ++ ⟨#[d]⟩)).size = C.size + 2 := by rw [ByteArray.size_append]; rfl
theorem dt1 (C : ByteArray) (c : UInt8) : (C ++ (⟨#[c]⟩ : ByteArray)).data.toList = C.data.toList ++ [c] := by simp
theorem dt2 (C : ByteArray) (c d : UInt8) : (C ++ ((⟨#[c]⟩ : ByteArray) ++ ⟨#[d]⟩)).data.toList = C.data.toList ++ [c, d] := by simp
theorem dtE (C : ByteArray) (l : List UInt8) : (C ++ (⟨l.toArray⟩ : ByteArray)).data.toList = C.data.toList ++ l := by simp
theorem one_ext (X : ByteArray) (j : Nat) (c : UInt8) (h : X.data.toList[j]? = some c) : X.extract j (j + 1) = ⟨#[c]⟩ := by
  apply ba_ext
  obtain ⟨h1, h2⟩ := List.getElem?_eq_some_iff.1 h
  rw [ByteArray.data_extract, Array.toList_extract, List.extract_eq_take_drop]
  rw [List.drop_eq_getElem_cons h1, h2]
  simp
theorem escB_cases (c : UInt8) : (spec8.contains c = true ∧ escB c = [92, c]) ∨ (spec8.contains c = false ∧ escB c = 92 :: escL c ∧ ((c.toNat : Int) < 33 ∨ 126 < (c.toNat : Int))) ∨ (spec8.contains c = false ∧ escB c = [c] ∧ ¬ (c.toNat : Int) < 33 ∧ ¬ 126 < (c.toNat : Int)) := by
  unfold escB
  cases spec8.contains c with
  | true => exact .inl ⟨rfl, rfl⟩
  | false =>
    by_cases h : c.toNat < 33 ∨ 126 < c.toNat
    · exact .inr (.inl ⟨rfl, by rw [if_neg (by simp), if_pos h], by omega⟩)
    · exact .inr (.inr ⟨rfl, by rw [if_neg (by simp), if_neg h], by omega, by omega⟩)

end Go.Proofs.Ythblaldkpjilhaa.showB
