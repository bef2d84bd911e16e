/- How many bytes a field takes: the short ones of data: walks. -/
import Derived.Test.YtjejmgdpjfdhjaaDoorFldP
import Derived.Test.YtjejmgdpjfdhjaaDoorSmall
namespace Go.Proofs.YtjejmgdpjfdhjaaDoor.takes
open Go.RowKit Go.Proofs.YtjejmgdpjfdhjaaDoor.kit Go.Proofs.YtjejmgdpjfdhjaaDoor.nspec Go.Proofs.YtjejmgdpjfdhjaaDoor.val Go.Proofs.YtjejmgdpjfdhjaaDoor.small Go.Proofs.YtjejmgdpjfdhjaaDoor.fld
set_option linter.unusedVariables false

theorem emp_yes {s : ByteArray} (h : s.size = 0) : s.toList = [] := by rw [Lib.toList_data]; exact List.eq_nil_of_length_eq_zero (by rw [size_len]; exact h)
theorem emp_no {s : ByteArray} (h : 0 < s.size) : s.toList.isEmpty = false := by
  rw [Lib.toList_data]
  cases hl : s.data.toList with
  | nil => have h3 : s.size = 0 := by rw [← size_len, hl]; rfl
           omega
  | cons => rfl
theorem data_cons {s : ByteArray} (h : 0 < s.size) : s.data.toList = s[0] :: s.data.toList.drop 1 := by have := drop_cons s 0 h; simpa using this
theorem rest_len {s : ByteArray} (h : 0 < s.size) : (s.data.toList.drop 1).length = s.size - 1 := by rw [List.length_drop, size_len]

theorem textS_at {s : ByteArray} (h : 0 < s.size) : textS s.data.toList = if (s.size : Int) ≤ (s[0].toNat : Int) then -1 else 1 + (s[0].toNat : Int) := by
  have hl := rest_len h
  rw [data_cons h]
  simp only [textS]
  by_cases h2 : (s.size : Int) ≤ (s[0].toNat : Int)
  · rw [if_pos (by omega), if_pos h2]
  · rw [if_neg (by omega), if_neg h2]; omega
theorem kind_at {s : ByteArray} (h : 2 ≤ s.size) : takeS .kind s.data.toList = if valL (s.extract 0 2).data.toList 0 = 0 then -1 else 2 := by
  have hl : 2 ≤ s.data.toList.length := by rw [size_len]; exact h
  have he : (s.extract 0 2).data.toList = s.data.toList.take 2 := by rw [Lib.extract_data]; rfl
  rw [he]
  match hd : s.data.toList, hl with
  | a :: b :: r, _ =>
    have ha := a.toNat_lt
    have hb := b.toNat_lt
    simp only [takeS, List.take_succ_cons, List.take_zero, valL, List.length_cons, List.getD_cons_zero, List.getD_cons_succ]
    by_cases h0 : a = 0 ∧ b = 0
    · rw [if_pos (.inr h0), if_pos (by rw [h0.1, h0.2]; rfl)]
    · have hn : ¬ (r.length + 1 + 1 < 2 ∨ (a = 0 ∧ b = 0)) := by
        rintro (h | h)
        · omega
        · exact h0 h
      rw [if_neg hn, if_neg]
      intro h1
      apply h0
      exact ⟨UInt8.toNat_inj.1 (by simp; omega), UInt8.toNat_inj.1 (by simp; omega)⟩
end Go.Proofs.YtjejmgdpjfdhjaaDoor.takes
