/- How many bytes a field takes: gazetteerref1.size: walk. -/
import Derived.Test.YthblaldkpjilhaaTypesR
import Derived.Test.YthblaldkpjilhaaHostT
import Derived.Test.YthblaldkpjilhaaTextsT
namespace Go.Proofs.Ythblaldkpjilhaa.rsize
open Go.RowKit Go.Proofs.Ythblaldkpjilhaa.kit Go.Proofs.Ythblaldkpjilhaa.nspec Go.Proofs.Ythblaldkpjilhaa.rsplit Go.Proofs.Ythblaldkpjilhaa.fld Go.Proofs.Ythblaldkpjilhaa.takes Go.Proofs.Ythblaldkpjilhaa.hostP Go.Proofs.Ythblaldkpjilhaa.hostT Go.Proofs.Ythblaldkpjilhaa.textsT Go.Proofs.Ythblaldkpjilhaa.typesW Go.Proofs.Ythblaldkpjilhaa.typesR
set_option linter.unusedVariables false

def letterOf : Fld → Nat
  | .num k => 48 + k | .ip4 => 97 | .ip6 => 54 | .host => 110 | .text => 116 | .texts => 84 | .tail => 114 | .hexes => 104 | .b64 => 98 | .kind => 107 | .kinds => 75 | .salt => 115 | .hash => 72
theorem kind_list : ∀ (d : Bs), 2 ≤ d.length → takeS .kind d = if (d.take 2 == [0, 0]) = true then -1 else 2
  | [], h => by simp at h
  | [x], h => by simp at h
  | x :: y :: r, h => by
    show (if (r.length + 1 + 1) < 2 ∨ (x = 0 ∧ y = 0) then (-1 : Int) else 2) = if ([x, y] == [0, 0]) = true then -1 else 2
    by_cases hxy : x = 0 ∧ y = 0
    · rw [if_pos (.inr hxy), if_pos (by rw [hxy.1, hxy.2]; rfl)]
    · have hn : ¬ ((r.length + 1 + 1) < 2 ∨ (x = 0 ∧ y = 0)) := by
        rintro (h | h)
        · omega
        · exact hxy h
      have hm : ¬ (([x, y] == [0, 0]) = true) := by simpa using hxy
      rw [if_neg hn, if_neg hm]
def SaysSz (f : Fld) (s : ByteArray) (w : World) (e : Ending) (w' : World) : Prop := e = .returned (.int .i64 (takeS f s.data.toList)) ∧ Below w.heap.size w w'

set_option maxRecDepth 100000 in
set_option maxHeartbeats 2000000 in
theorem size_1 (s : ByteArray) (w : World) (hs : s.size ≤ 65535) : Calls Try.prog 124 #[.int .u8 49, .string s] w (SaysSz (.num 1) s w) := by
  have HE : Hid (takeS (.num 1) s.data.toList = if s.size < 1 then -1 else 1) := Lib.hid (by simp only [takeS]; rw [size_len]; rfl)
  unfold SaysSz
  rw [HE.out]
  by_cases h : s.size < 1
  · rw [if_pos h]
    have hi : (s.size : Int) < 1 := by omega
    go_enter Try.func124, Try.ntmps124
    go_wp2_with fail
    go_ret
    exact ⟨rfl, Below.refl _ _⟩
  · rw [if_neg h]
    have hi : (1 : Int) ≤ (s.size : Int) := by omega
    go_enter Try.func124, Try.ntmps124
    go_wp2_with fail
    go_ret
    exact ⟨rfl, Below.refl _ _⟩

set_option maxRecDepth 100000 in
set_option maxHeartbeats 2000000 in
theorem size_2 (s : ByteArray) (w : World) (hs : s.size ≤ 65535) : Calls Try.prog 124 #[.int .u8 50, .string s] w (SaysSz (.num 2) s w) := by
  have HE : Hid (takeS (.num 2) s.data.toList = if s.size < 2 then -1 else 2) := Lib.hid (by simp only [takeS]; rw [size_len]; rfl)
  unfold SaysSz
  rw [HE.out]
  by_cases h : s.size < 2
  · rw [if_pos h]
    have hi : (s.size : Int) < 2 := by omega
    go_enter Try.func124, Try.ntmps124
    go_wp2_with fail
    go_ret
    exact ⟨rfl, Below.refl _ _⟩
  · rw [if_neg h]
    have hi : (2 : Int) ≤ (s.size : Int) := by omega
    go_enter Try.func124, Try.ntmps124
    go_wp2_with fail
    go_ret
    exact ⟨rfl, Below.refl _ _⟩

set_option maxRecDepth 100000 in
set_option maxHeartbeats 2000000 in
theorem size_4 (s : ByteArray) (w : World) (hs : s.size ≤ 65535) : Calls Try.prog 124 #[.int .u8 52, .string s] w (SaysSz (.num 4) s w) := by
  have HE : Hid (takeS (.num 4) s.data.toList = if s.size < 4 then -1 else 4) := Lib.hid (by simp only [takeS]; rw [size_len]; rfl)
  unfold SaysSz
  rw [HE.out]
  by_cases h : s.size < 4
  · rw [if_pos h]
    have hi : (s.size : Int) < 4 := by omega
    go_enter Try.func124, Try.ntmps124
    go_wp2_with fail
    go_ret
    exact ⟨rfl, Below.refl _ _⟩
  · rw [if_neg h]
    have hi : (4 : Int) ≤ (s.size : Int) := by omega
    go_enter Try.func124, Try.ntmps124
    go_wp2_with fail
    go_ret
    exact ⟨rfl, Below.refl _ _⟩

set_option maxRecDepth 100000 in
set_option maxHeartbeats 2000000 in
theorem size_ip4 (s : ByteArray) (w : World) (hs : s.size ≤ 65535) : Calls Try.prog 124 #[.int .u8 97, .string s] w (SaysSz .ip4 s w) := by
  have HE : Hid (takeS .ip4 s.data.toList = if s.size < 4 then -1 else 4) := Lib.hid (by simp only [takeS]; rw [size_len])
  unfold SaysSz
  rw [HE.out]
  by_cases h : s.size < 4
  · rw [if_pos h]
    have hi : (s.size : Int) < 4 := by omega
    go_enter Try.func124, Try.ntmps124
    go_wp2_with fail
    go_ret
    exact ⟨rfl, Below.refl _ _⟩
  · rw [if_neg h]
    have hi : (4 : Int) ≤ (s.size : Int) := by omega
    go_enter Try.func124, Try.ntmps124
    go_wp2_with fail
    go_ret
    exact ⟨rfl, Below.refl _ _⟩

set_option maxRecDepth 100000 in
set_option maxHeartbeats 2000000 in
theorem size_ip6 (s : ByteArray) (w : World) (hs : s.size ≤ 65535) : Calls Try.prog 124 #[.int .u8 54, .string s] w (SaysSz .ip6 s w) := by
  have HE : Hid (takeS .ip6 s.data.toList = if s.size < 16 then -1 else 16) := Lib.hid (by simp only [takeS]; rw [size_len])
  unfold SaysSz
  rw [HE.out]
  by_cases h : s.size < 16
  · rw [if_pos h]
    have hi : (s.size : Int) < 16 := by omega
    go_enter Try.func124, Try.ntmps124
    go_wp2_with fail
    go_ret
    exact ⟨rfl, Below.refl _ _⟩
  · rw [if_neg h]
    have hi : (16 : Int) ≤ (s.size : Int) := by omega
    go_enter Try.func124, Try.ntmps124
    go_wp2_with fail
    go_ret
    exact ⟨rfl, Below.refl _ _⟩

set_option maxRecDepth 100000 in
set_option maxHeartbeats 2000000 in
theorem size_tail (s : ByteArray) (w : World) (hs : s.size ≤ 65535) : Calls Try.prog 124 #[.int .u8 114, .string s] w (SaysSz .tail s w) := by
  have HE : Hid (takeS .tail s.data.toList = (s.size : Int)) := Lib.hid (by simp only [takeS]; rw [size_len])
  unfold SaysSz
  rw [HE.out]
  go_enter Try.func124, Try.ntmps124
  go_wp2_with fail
  go_ret
  exact ⟨rfl, Below.refl _ _⟩

set_option maxRecDepth 100000 in
set_option maxHeartbeats 2000000 in
theorem size_hexes (s : ByteArray) (w : World) (hs : s.size ≤ 65535) : Calls Try.prog 124 #[.int .u8 104, .string s] w (SaysSz .hexes s w) := by
  unfold SaysSz
  by_cases h0 : s.size = 0
  · have he := emp_yes h0
    have HE : Hid (takeS .hexes s.data.toList = -1) := Lib.hid (by rw [← Lib.toList_data, he]; rfl)
    rw [HE.out]
    clear h0
    go_enter Try.func124, Try.ntmps124
    go_wp2_with fail
    go_ret
    exact ⟨rfl, Below.refl _ _⟩
  · have he := emp_no (s := s) (by omega)
    have HE : Hid (takeS .hexes s.data.toList = (s.size : Int)) := Lib.hid (by simp only [takeS, someS]; rw [if_neg (by intro h; rw [← size_len, h] at h0; simp at h0), size_len])
    rw [HE.out]
    clear h0
    go_enter Try.func124, Try.ntmps124
    go_wp2_with fail
    go_ret
    exact ⟨rfl, Below.refl _ _⟩

set_option maxRecDepth 100000 in
set_option maxHeartbeats 2000000 in
theorem size_b64 (s : ByteArray) (w : World) (hs : s.size ≤ 65535) : Calls Try.prog 124 #[.int .u8 98, .string s] w (SaysSz .b64 s w) := by
  unfold SaysSz
  by_cases h0 : s.size = 0
  · have he := emp_yes h0
    have HE : Hid (takeS .b64 s.data.toList = -1) := Lib.hid (by rw [← Lib.toList_data, he]; rfl)
    rw [HE.out]
    clear h0
    go_enter Try.func124, Try.ntmps124
    go_wp2_with fail
    go_ret
    exact ⟨rfl, Below.refl _ _⟩
  · have he := emp_no (s := s) (by omega)
    have HE : Hid (takeS .b64 s.data.toList = (s.size : Int)) := Lib.hid (by simp only [takeS, someS]; rw [if_neg (by intro h; rw [← size_len, h] at h0; simp at h0), size_len])
    rw [HE.out]
    clear h0
    go_enter Try.func124, Try.ntmps124
    go_wp2_with fail
    go_ret
    exact ⟨rfl, Below.refl _ _⟩

set_option maxRecDepth 100000 in
set_option maxHeartbeats 2000000 in
theorem size_text (s : ByteArray) (w : World) (hs : s.size ≤ 65535) : Calls Try.prog 124 #[.int .u8 116, .string s] w (SaysSz .text s w) := by
  unfold SaysSz
  have H0 : Hid (takeS .text s.data.toList = textS s.data.toList) := Lib.hid rfl
  rw [H0.out]
  by_cases h0 : s.size = 0
  · have HE : Hid (textS s.data.toList = -1) := Lib.hid (by rw [← Lib.toList_data, emp_yes h0]; rfl)
    rw [HE.out]
    have hb : ((s.size : Int) == 0) = true := by rw [beq_iff_eq]; omega
    clear h0
    go_enter Try.func124, Try.ntmps124
    go_wp2_with fail
    go_ret
    exact ⟨rfl, Below.refl _ _⟩
  · have h1 : 0 < s.size := by omega
    have HT := Lib.hid (textS_at h1)
    rw [HT.out]
    have hb : ((s.size : Int) == 0) = false := by rw [beq_eq_false_iff_ne]; omega
    obtain ⟨c, hc⟩ : ∃ c, s[0] = c := ⟨_, rfl⟩
    have hc256 := byte_lt c
    rw [hc]
    clear h0
    by_cases h2 : (s.size : Int) ≤ (c.toNat : Int)
    · rw [if_pos h2]
      have h3 : (s.size : Int) < 1 + (c.toNat : Int) := by omega
      go_enter Try.func124, Try.ntmps124
      go_wp2_with fail
      go_ret
      exact ⟨rfl, Below.refl _ _⟩
    · rw [if_neg h2]
      have h3 : 1 + (c.toNat : Int) ≤ (s.size : Int) := by omega
      clear h2
      go_enter Try.func124, Try.ntmps124
      go_wp2_with fail
      go_ret
      exact ⟨rfl, Below.refl _ _⟩

set_option maxRecDepth 100000 in
set_option maxHeartbeats 2000000 in
theorem size_salt (s : ByteArray) (w : World) (hs : s.size ≤ 65535) : Calls Try.prog 124 #[.int .u8 115, .string s] w (SaysSz .salt s w) := by
  unfold SaysSz
  have H0 : Hid (takeS .salt s.data.toList = textS s.data.toList) := Lib.hid rfl
  rw [H0.out]
  by_cases h0 : s.size = 0
  · have HE : Hid (textS s.data.toList = -1) := Lib.hid (by rw [← Lib.toList_data, emp_yes h0]; rfl)
    rw [HE.out]
    have hb : ((s.size : Int) == 0) = true := by rw [beq_iff_eq]; omega
    clear h0
    go_enter Try.func124, Try.ntmps124
    go_wp2_with fail
    go_ret
    exact ⟨rfl, Below.refl _ _⟩
  · have h1 : 0 < s.size := by omega
    have HT := Lib.hid (textS_at h1)
    rw [HT.out]
    have hb : ((s.size : Int) == 0) = false := by rw [beq_eq_false_iff_ne]; omega
    obtain ⟨c, hc⟩ : ∃ c, s[0] = c := ⟨_, rfl⟩
    have hc256 := byte_lt c
    rw [hc]
    clear h0
    by_cases h2 : (s.size : Int) ≤ (c.toNat : Int)
    · rw [if_pos h2]
      have h3 : (s.size : Int) < 1 + (c.toNat : Int) := by omega
      go_enter Try.func124, Try.ntmps124
      go_wp2_with fail
      go_ret
      exact ⟨rfl, Below.refl _ _⟩
    · rw [if_neg h2]
      have h3 : 1 + (c.toNat : Int) ≤ (s.size : Int) := by omega
      clear h2
      go_enter Try.func124, Try.ntmps124
      go_wp2_with fail
      go_ret
      exact ⟨rfl, Below.refl _ _⟩

set_option maxRecDepth 100000 in
set_option maxHeartbeats 2000000 in
theorem size_hash (s : ByteArray) (w : World) (hs : s.size ≤ 65535) : Calls Try.prog 124 #[.int .u8 72, .string s] w (SaysSz .hash s w) := by
  unfold SaysSz
  by_cases h0 : s.size = 0
  · have HE : Hid (takeS .hash s.data.toList = -1) := Lib.hid (by rw [← Lib.toList_data, emp_yes h0]; rfl)
    rw [HE.out]
    have hb : ((s.size : Int) == 0) = true := by rw [beq_iff_eq]; omega
    clear h0
    go_enter Try.func124, Try.ntmps124
    go_wp2_with fail
    go_ret
    exact ⟨rfl, Below.refl _ _⟩
  · have h1 : 0 < s.size := by omega
    have hb : ((s.size : Int) == 0) = false := by rw [beq_eq_false_iff_ne]; omega
    have ht := textS_at h1
    have hd := data_cons h1
    obtain ⟨c, hc⟩ : ∃ c, s[0] = c := ⟨_, rfl⟩
    have hc256 := byte_lt c
    rw [hc] at ht hd
    clear h0
    by_cases h2 : (s.size : Int) ≤ (c.toNat : Int)
    · have HE : Hid (takeS .hash s.data.toList = -1) := Lib.hid (by
        simp only [takeS]; rw [ht, if_pos h2]; split <;> rfl)
      rw [HE.out]
      have h3 : (s.size : Int) < 1 + (c.toNat : Int) := by omega
      clear ht hd
      go_enter Try.func124, Try.ntmps124
      go_wp2_with fail
      go_ret
      exact ⟨rfl, Below.refl _ _⟩
    · have h3 : 1 + (c.toNat : Int) ≤ (s.size : Int) := by omega
      by_cases hz : c = 0
      · have HE : Hid (takeS .hash s.data.toList = -1) := Lib.hid (by simp only [takeS]; rw [if_pos (.inr (by rw [hd]; exact hz))])
        rw [HE.out]
        have hzb : ((c.toNat : Int) == 0) = true := by rw [hz]; rfl
        clear ht hd h2 hz
        go_enter Try.func124, Try.ntmps124
        go_wp2_with fail
        go_ret
        exact ⟨rfl, Below.refl _ _⟩
      · have HE : Hid (takeS .hash s.data.toList = 1 + (c.toNat : Int)) := Lib.hid (by
          have hn : ¬ (s.data.toList = [] ∨ s.data.toList.getD 0 0 = 0) := by
            rintro (h | h)
            · rw [h] at hd; simp at hd
            · rw [hd] at h; exact hz h
          simp only [takeS]; rw [if_neg hn, ht, if_neg h2]; simp)
        rw [HE.out]
        have hzb : ((c.toNat : Int) == 0) = false := by rw [beq_eq_false_iff_ne]; intro h; exact hz (UInt8.toNat_inj.1 (by simpa using h))
        clear ht hd h2 hz
        go_enter Try.func124, Try.ntmps124
        go_wp2_with fail
        go_ret
        exact ⟨rfl, Below.refl _ _⟩

set_option maxRecDepth 100000 in
set_option maxHeartbeats 2000000 in
theorem size_kind (s : ByteArray) (w : World) (hs : s.size ≤ 65535) : Calls Try.prog 124 #[.int .u8 107, .string s] w (SaysSz .kind s w) := by
  unfold SaysSz
  by_cases h2 : 2 ≤ s.size
  · have hl : 2 ≤ s.data.toList.length := by rw [size_len]; exact h2
    have he : (s.extract 0 2).toList = s.data.toList.take 2 := by rw [Lib.toList_data, ext0]
    have h2i : (2 : Int) ≤ (s.size : Int) := by omega
    obtain ⟨b, hb⟩ : ∃ b, ((s.extract 0 2).toList == [0, 0]) = b := ⟨_, rfl⟩
    have HE : Hid (takeS .kind s.data.toList = if b = true then -1 else 2) := Lib.hid (by rw [← hb, he]; exact kind_list _ hl)
    rw [HE.out]
    clear he hl h2
    cases b with
    | true =>
      go_enter Try.func124, Try.ntmps124
      go_wp2_with fail
      go_ret
      exact ⟨rfl, Below.refl _ _⟩
    | false =>
      go_enter Try.func124, Try.ntmps124
      go_wp2_with fail
      go_ret
      exact ⟨rfl, Below.refl _ _⟩
  · have HE : Hid (takeS .kind s.data.toList = -1) := Lib.hid (by simp only [takeS]; rw [if_pos (.inl (by rw [size_len]; omega))])
    rw [HE.out]
    have h2i : (s.size : Int) < 2 := by omega
    clear h2
    go_enter Try.func124, Try.ntmps124
    go_wp2_with fail
    go_ret
    exact ⟨rfl, Below.refl _ _⟩

set_option maxRecDepth 100000 in
set_option maxHeartbeats 2000000 in
theorem size_kinds (s : ByteArray) (w : World) (hs : s.size ≤ 65535) : Calls Try.prog 124 #[.int .u8 75, .string s] w (SaysSz .kinds s w) := by
  unfold SaysSz
  have C := Lib.hid (fun w => rtypes_any s w (by omega))
  obtain ⟨R, HR⟩ : ∃ R, Hid (takeS .kinds s.data.toList = R) := ⟨_, Lib.hid rfl⟩
  rw [HR.out]
  go_enter Try.func124, Try.ntmps124
  go_wp2_with fail
  refine (C.out _).mono ?_
  rintro e w1 ⟨hB1, ⟨v, l, hl, rfl, _⟩ | ⟨hl, rfl⟩⟩
  · have HN : Hid ((s.size : Int) = R) := Lib.hid (by rw [← HR.out]; simp only [takeS]; rw [if_neg (by rw [hl]; simp), size_len])
    clear hl
    go_wp2_with fail
    go_ret
    exact ⟨by rw [← HN.out]; rfl, hB1⟩
  · have HN : Hid ((-1 : Int) = R) := Lib.hid (by rw [← HR.out]; simp only [takeS]; rw [if_pos hl])
    clear hl
    go_wp2_with fail
    go_ret
    exact ⟨by rw [← HN.out]; rfl, hB1⟩
end Go.Proofs.Ythblaldkpjilhaa.rsize
