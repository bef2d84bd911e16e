/- How many bytes a field takes: the short ones of data: walks. -/
import Derived.Test.YtabhiangjomaeaaFldP
import Derived.Test.YtabhiangjomaeaaSmall
namespace Go.Proofs.Ytabhiangjomaeaa.takes
open Go.RowKit Go.Proofs.Ytabhiangjomaeaa.kit Go.Proofs.Ytabhiangjomaeaa.nspec Go.Proofs.Ytabhiangjomaeaa.val Go.Proofs.Ytabhiangjomaeaa.small Go.Proofs.Ytabhiangjomaeaa.fld
set_option linter.unusedVariables false

theorem emp_yes {s : ByteArray} (h : s.size = 0) : s.toList = [] := by rw [Lib.toList_data]; exact List.eq_nil_of_length_eq_zero (by rw [size_len]; exact h)
theorem emp_no {s : ByteArray} (h : 0 < s.size) : s.toList.isEmpty = false := by
  rw [Lib.toList_data]
  cases hl : s.data.toList with
  | nil => have h3 : s.size = 0 := by rw [← size_len, hl]; rfl
           omega
  | cons => rfl
theorem data_cons {s : ByteArray} (h : 0 < s.size) : s.data.toList = s[0] :: s.data.toList.drop 1 := by have := drop_cons s 0 h; simpa using this
theorem rest_len {s : ByteArray} (h : 0 < s.size) : (s.data.toList.drop 1).length = s.size - 1 := by rw [List.length_drop, size_len]

set_option maxRecDepth 100000 in
theorem num_any (k : Nat) (s : ByteArray) (w : World) (hk : k ≤ 100) (hs : s.size ≤ 1099511627776) :
    Calls Try.prog 156 #[.int .i64 (k : Int), .string s] w fun e w' => e = .returned (.int .i64 (takeS (.num k) s.data.toList)) ∧ Below w.heap.size w w' := by
  have HE : Hid (takeS (.num k) s.data.toList = if s.size < k then -1 else (k : Int)) := Lib.hid (by simp only [takeS]; rw [size_len])
  rw [HE.out]
  by_cases h : s.size < k
  · rw [if_pos h]
    have hb : decide (s.size < k) = true := by simpa using h
    go_enter Try.func156, Try.ntmps156
    go_wp2_with fail
    go_ret
    exact ⟨rfl, Below.refl _ _⟩
  · rw [if_neg h]
    have hb : decide (s.size < k) = false := by simpa using h
    go_enter Try.func156, Try.ntmps156
    go_wp2_with fail
    go_ret
    exact ⟨rfl, Below.refl _ _⟩

set_option maxRecDepth 100000 in
theorem ip4_any (s : ByteArray) (w : World) (hs : s.size ≤ 1099511627776) :
    Calls Try.prog 157 #[.agg #[], .string s] w fun e w' => e = .returned (.int .i64 (takeS .ip4 s.data.toList)) ∧ Below w.heap.size w w' := by
  have C := Lib.hid (fun w => num_any 4 s w (by omega) hs)
  have HE : Hid (takeS (.num 4) s.data.toList = takeS .ip4 s.data.toList) := Lib.hid rfl
  rw [HE.out] at C
  have hBa := Lib.hid ((Below.refl w.heap.size w).alloc (Nat.le_refl _) (.cells #[] 174))
  go_enter Try.func157, Try.ntmps157
  go_wp2_with fail
  refine (C.out _).mono ?_
  rintro e w1 ⟨rfl, hB1⟩
  have hB := hBa.out.trans (hB1.mono hBa.out.size)
  clear hB1
  go_wp2_with fail
  go_ret
  exact ⟨rfl, hB⟩

set_option maxRecDepth 100000 in
theorem ip6_any (s : ByteArray) (w : World) (hs : s.size ≤ 1099511627776) :
    Calls Try.prog 161 #[.agg #[], .string s] w fun e w' => e = .returned (.int .i64 (takeS .ip6 s.data.toList)) ∧ Below w.heap.size w w' := by
  have C := Lib.hid (fun w => num_any 16 s w (by omega) hs)
  have HE : Hid (takeS (.num 16) s.data.toList = takeS .ip6 s.data.toList) := Lib.hid rfl
  rw [HE.out] at C
  have hBa := Lib.hid ((Below.refl w.heap.size w).alloc (Nat.le_refl _) (.cells #[] 178))
  go_enter Try.func161, Try.ntmps161
  go_wp2_with fail
  refine (C.out _).mono ?_
  rintro e w1 ⟨rfl, hB1⟩
  have hB := hBa.out.trans (hB1.mono hBa.out.size)
  clear hB1
  go_wp2_with fail
  go_ret
  exact ⟨rfl, hB⟩

theorem textS_at {s : ByteArray} (h : 0 < s.size) : textS s.data.toList = if (s.size : Int) ≤ (s[0].toNat : Int) then -1 else 1 + (s[0].toNat : Int) := by
  have hl := rest_len h
  rw [data_cons h]
  simp only [textS]
  by_cases h2 : (s.size : Int) ≤ (s[0].toNat : Int)
  · rw [if_pos (by omega), if_pos h2]
  · rw [if_neg (by omega), if_neg h2]; omega
set_option maxRecDepth 100000 in
theorem text_any (s : ByteArray) (w : World) (hs : s.size ≤ 1099511627776) :
    Calls Try.prog 159 #[.agg #[], .string s] w fun e w' => e = .returned (.int .i64 (textS s.data.toList)) ∧ Below w.heap.size w w' := by
  have hBa := Lib.hid ((Below.refl w.heap.size w).alloc (Nat.le_refl _) (.cells #[] 176))
  by_cases h0 : s.size = 0
  · have he := emp_yes h0
    have HE : Hid (textS s.data.toList = -1) := Lib.hid (by rw [← Lib.toList_data, he]; rfl)
    rw [HE.out]
    clear h0
    go_enter Try.func159, Try.ntmps159
    go_wp2_with fail
    go_ret
    exact ⟨rfl, hBa.out⟩
  · have h1 : 0 < s.size := by omega
    have he := emp_no h1
    have HT := Lib.hid (textS_at h1)
    rw [HT.out]
    obtain ⟨c, hc⟩ : ∃ c, s[0] = c := ⟨_, rfl⟩
    have hc256 := byte_lt c
    rw [hc]
    clear h0
    by_cases h2 : (s.size : Int) ≤ (c.toNat : Int)
    · rw [if_pos h2]
      go_enter Try.func159, Try.ntmps159
      go_wp2_with fail
      go_ret
      exact ⟨rfl, hBa.out⟩
    · rw [if_neg h2]
      have h2' : (c.toNat : Int) < (s.size : Int) := by omega
      clear h2
      go_enter Try.func159, Try.ntmps159
      go_wp2_with fail
      go_ret
      exact ⟨rfl, hBa.out⟩

set_option maxRecDepth 100000 in
theorem salt_any (s : ByteArray) (w : World) (hs : s.size ≤ 1099511627776) :
    Calls Try.prog 168 #[.agg #[], .string s] w fun e w' => e = .returned (.int .i64 (takeS .salt s.data.toList)) ∧ Below w.heap.size w w' := by
  have C := Lib.hid (fun w => text_any s w hs)
  have hBa := Lib.hid ((Below.refl w.heap.size w).alloc (Nat.le_refl _) (.cells #[] 183))
  have HE : Hid (takeS .salt s.data.toList = textS s.data.toList) := Lib.hid rfl
  rw [HE.out]
  go_enter Try.func168, Try.ntmps168
  go_wp2_with fail
  refine (C.out _).mono ?_
  rintro e w1 ⟨rfl, hB1⟩
  have hB := hBa.out.trans (hB1.mono hBa.out.size)
  clear hB1
  go_wp2_with fail
  go_ret
  exact ⟨rfl, hB⟩

set_option maxRecDepth 100000 in
theorem hash_any (s : ByteArray) (w : World) (hs : s.size ≤ 1099511627776) :
    Calls Try.prog 169 #[.agg #[], .string s] w fun e w' => e = .returned (.int .i64 (takeS .hash s.data.toList)) ∧ Below w.heap.size w w' := by
  have C := Lib.hid (fun w => text_any s w hs)
  have hBa := Lib.hid ((Below.refl w.heap.size w).alloc (Nat.le_refl _) (.cells #[] 184))
  by_cases h0 : s.size = 0
  · have he := emp_yes h0
    have HE : Hid (takeS .hash s.data.toList = -1) := Lib.hid (by rw [← Lib.toList_data, he]; rfl)
    rw [HE.out]
    clear h0
    go_enter Try.func169, Try.ntmps169
    go_wp2_with fail
    go_ret
    exact ⟨rfl, hBa.out⟩
  · have h1 : 0 < s.size := by omega
    have he := emp_no h1
    obtain ⟨c, hc⟩ : ∃ c, s[0] = c := ⟨_, rfl⟩
    have hd := data_cons h1
    rw [hc] at hd
    clear h0
    by_cases h2 : c = 0
    · have HE : Hid (takeS .hash s.data.toList = -1) := Lib.hid (by simp only [takeS]; rw [if_pos (.inr (by rw [hd]; exact h2))])
      rw [HE.out]
      have hb : ((c.toNat : Int) == 0) = true := by rw [h2]; rfl
      clear h2 hd
      go_enter Try.func169, Try.ntmps169
      go_wp2_with fail
      go_ret
      exact ⟨rfl, hBa.out⟩
    · have HE : Hid (takeS .hash s.data.toList = textS s.data.toList) := Lib.hid (by
        simp only [takeS]; rw [if_neg]
        rintro (h | h)
        · rw [h] at hd; simp at hd
        · rw [hd] at h; exact h2 h)
      rw [HE.out]
      have hb : ((c.toNat : Int) == 0) = false := by rw [beq_eq_false_iff_ne]; intro h; exact h2 (UInt8.toNat_inj.1 (by simpa using h))
      clear h2 hd
      go_enter Try.func169, Try.ntmps169
      go_wp2_with fail
      refine (C.out _).mono ?_
      rintro e w1 ⟨rfl, hB1⟩
      have hB := hBa.out.trans (hB1.mono hBa.out.size)
      clear hB1
      go_wp2_with fail
      go_ret
      exact ⟨rfl, hB⟩

set_option maxRecDepth 100000 in
theorem tail_any (s : ByteArray) (w : World) (hs : s.size ≤ 1099511627776) :
    Calls Try.prog 170 #[.agg #[], .string s] w fun e w' => e = .returned (.int .i64 (takeS .tail s.data.toList)) ∧ Below w.heap.size w w' := by
  have hBa := Lib.hid ((Below.refl w.heap.size w).alloc (Nat.le_refl _) (.cells #[] 185))
  have HE : Hid (takeS .tail s.data.toList = (s.size : Int)) := Lib.hid (by simp only [takeS]; rw [size_len])
  rw [HE.out]
  go_enter Try.func170, Try.ntmps170
  go_wp2_with fail
  go_ret
  exact ⟨rfl, hBa.out⟩

set_option maxRecDepth 100000 in
theorem some_any (s : ByteArray) (w : World) (hs : s.size ≤ 1099511627776) :
    Calls Try.prog 163 #[.string s] w fun e w' => e = .returned (.int .i64 (someS s.data.toList)) ∧ w = w' := by
  by_cases h0 : s.size = 0
  · have he := emp_yes h0
    have HE : Hid (someS s.data.toList = -1) := Lib.hid (by rw [← Lib.toList_data, he]; rfl)
    rw [HE.out]
    clear h0
    go_enter Try.func163, Try.ntmps163
    go_wp2_with fail
    go_ret
    exact ⟨rfl, rfl⟩
  · have h1 : 0 < s.size := by omega
    have he := emp_no h1
    have HE : Hid (someS s.data.toList = (s.size : Int)) := Lib.hid (by unfold someS; rw [if_neg (by intro h; rw [← size_len, h] at h1; simp at h1), size_len])
    rw [HE.out]
    clear h0
    go_enter Try.func163, Try.ntmps163
    go_wp2_with fail
    go_ret
    exact ⟨rfl, rfl⟩

set_option maxRecDepth 100000 in
theorem hexes_any (s : ByteArray) (w : World) (hs : s.size ≤ 1099511627776) :
    Calls Try.prog 162 #[.agg #[], .string s] w fun e w' => e = .returned (.int .i64 (takeS .hexes s.data.toList)) ∧ Below w.heap.size w w' := by
  have C := Lib.hid (fun w => some_any s w hs)
  have hBa := Lib.hid ((Below.refl w.heap.size w).alloc (Nat.le_refl _) (.cells #[] 179))
  have HE : Hid (takeS .hexes s.data.toList = someS s.data.toList) := Lib.hid rfl
  rw [HE.out]
  go_enter Try.func162, Try.ntmps162
  go_wp2_with fail
  refine (C.out _).mono ?_
  rintro e w1 ⟨rfl, rfl⟩
  go_wp2_with fail
  go_ret
  exact ⟨rfl, hBa.out⟩

set_option maxRecDepth 100000 in
theorem b64_any (s : ByteArray) (w : World) (hs : s.size ≤ 1099511627776) :
    Calls Try.prog 166 #[.agg #[], .string s] w fun e w' => e = .returned (.int .i64 (takeS .b64 s.data.toList)) ∧ Below w.heap.size w w' := by
  have C := Lib.hid (fun w => some_any s w hs)
  have hBa := Lib.hid ((Below.refl w.heap.size w).alloc (Nat.le_refl _) (.cells #[] 181))
  have HE : Hid (takeS .b64 s.data.toList = someS s.data.toList) := Lib.hid rfl
  rw [HE.out]
  go_enter Try.func166, Try.ntmps166
  go_wp2_with fail
  refine (C.out _).mono ?_
  rintro e w1 ⟨rfl, rfl⟩
  go_wp2_with fail
  go_ret
  exact ⟨rfl, hBa.out⟩

theorem kind_at {s : ByteArray} (h : 2 ≤ s.size) : takeS .kind s.data.toList = if valL (s.extract 0 2).data.toList 0 = 0 then -1 else 2 := by
  have hl : 2 ≤ s.data.toList.length := by rw [size_len]; exact h
  have he : (s.extract 0 2).data.toList = s.data.toList.take 2 := by rw [Lib.extract_data]; rfl
  rw [he]
  match hd : s.data.toList, hl with
  | a :: b :: r, _ =>
    have ha := a.toNat_lt
    have hb := b.toNat_lt
    simp only [takeS, List.take_succ_cons, List.take_zero, valL, List.length_cons, List.getD_cons_zero, List.getD_cons_succ]
    by_cases h0 : a = 0 ∧ b = 0
    · rw [if_pos (.inr h0), if_pos (by rw [h0.1, h0.2]; rfl)]
    · have hn : ¬ (r.length + 1 + 1 < 2 ∨ (a = 0 ∧ b = 0)) := by
        rintro (h | h)
        · omega
        · exact h0 h
      rw [if_neg hn, if_neg]
      intro h1
      apply h0
      exact ⟨UInt8.toNat_inj.1 (by simp; omega), UInt8.toNat_inj.1 (by simp; omega)⟩
set_option maxRecDepth 100000 in
theorem kind_any (s : ByteArray) (w : World) (hs : s.size ≤ 1099511627776) :
    Calls Try.prog 164 #[.agg #[], .string s] w fun e w' => e = .returned (.int .i64 (takeS .kind s.data.toList)) ∧ Below w.heap.size w w' := by
  have hBa := Lib.hid ((Below.refl w.heap.size w).alloc (Nat.le_refl _) (.cells #[] 180))
  by_cases h2 : 2 ≤ s.size
  · have C := Lib.hid (fun w => small_any (s.extract 0 2) w (by rw [ByteArray.size_extract]; omega))
    have HT := Lib.hid (kind_at h2)
    rw [HT.out]
    obtain ⟨v, hv⟩ : ∃ v, valL (s.extract 0 2).data.toList 0 = v := ⟨_, rfl⟩
    rw [hv] at C ⊢
    have h2i : (2 : Int) ≤ (s.size : Int) := by omega
    have hb2 : decide ((s.size : Int) < 2) = false := by rw [decide_eq_false_iff_not]; omega
    clear hv
    by_cases hv0 : v = 0
    · subst hv0
      rw [if_pos rfl]
      go_enter Try.func164, Try.ntmps164
      go_wp2_with fail
      refine (C.out _).mono ?_
      rintro e w1 ⟨rfl, rfl⟩
      go_wp2_with fail
      go_ret
      exact ⟨rfl, hBa.out⟩
    · rw [if_neg hv0]
      have hb : ((v : Int) == 0) = false := by rw [beq_eq_false_iff_ne]; omega
      clear hv0
      go_enter Try.func164, Try.ntmps164
      go_wp2_with fail
      refine (C.out _).mono ?_
      rintro e w1 ⟨rfl, rfl⟩
      go_wp2_with fail
      go_ret
      exact ⟨rfl, hBa.out⟩
  · have HE : Hid (takeS .kind s.data.toList = -1) := Lib.hid (by simp only [takeS]; rw [if_pos (.inl (by rw [size_len]; omega))])
    rw [HE.out]
    have h2i : (s.size : Int) < 2 := by omega
    have hb2 : decide ((s.size : Int) < 2) = true := by rw [decide_eq_true_eq]; omega
    clear h2
    go_enter Try.func164, Try.ntmps164
    go_wp2_with fail
    go_ret
    exact ⟨rfl, hBa.out⟩
end Go.Proofs.Ytabhiangjomaeaa.takes
