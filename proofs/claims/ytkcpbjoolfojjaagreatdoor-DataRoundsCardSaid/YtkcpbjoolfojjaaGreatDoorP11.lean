/- A number as bytes: seal.bytes, gazetteerref1.Bytes: walks. Bytes as a number: seal.number, gazetteerref1.Value: walks. Bytes as a number: data.small: walk. How many bytes a field takes: the short ones of data: walks. -/
import Derived.Test.YtkcpbjoolfojjaaGreatDoorP9
import Derived.Test.YtkcpbjoolfojjaaGreatDoorP10
import Derived.Test.YtkcpbjoolfojjaaGreatDoorP8
import Derived.Test.YtkcpbjoolfojjaaGreatDoorP2
import Derived.OwnWalk
import Derived.Deep.RegionWith
namespace Go.Proofs.YtkcpbjoolfojjaaGreatDoor.big
open Go.RowKit Go.Proofs.YtkcpbjoolfojjaaGreatDoor.kit Go.Proofs.YtkcpbjoolfojjaaGreatDoor.bits Go.Proofs.YtkcpbjoolfojjaaGreatDoor.bld Go.Proofs.YtkcpbjoolfojjaaGreatDoor.coded Go.Proofs.YtkcpbjoolfojjaaGreatDoor.reader
set_option linter.unusedVariables false

/-- the lowest n bytes of v, the highest first -/
def bigS (v : Nat) : Nat → List UInt8
  | 0 => []
  | n + 1 => bigS (v / 256) n ++ [UInt8.ofNat (v % 256)]
theorem bigS_len (v n : Nat) : (bigS v n).length = n := by
  induction n generalizing v with
  | zero => rfl
  | succ n ih => rw [bigS, List.length_append, ih]; rfl
theorem bigS_at : ∀ (n v k : Nat), k < n → (bigS v n)[k]? = some (UInt8.ofNat (v / 2 ^ (8 * (n - 1 - k)) % 256))
  | 0, v, k, h => by omega
  | n + 1, v, k, h => by
    rw [bigS]
    by_cases hk : k < n
    · rw [List.getElem?_append_left (by rw [bigS_len]; exact hk), bigS_at n (v / 256) k hk, Nat.div_div_eq_div_mul]
      congr 3
      rw [show 8 * (n + 1 - 1 - k) = 8 + 8 * (n - 1 - k) by omega, Nat.pow_add]
    · have hkn : k = n := by omega
      subst hkn
      rw [List.getElem?_append_right (by rw [bigS_len]; exact Nat.le_refl _), bigS_len]
      simp
def bigTo (v n k : Nat) : List UInt8 := (bigS v n).take k ++ List.replicate (n - k) 0
theorem bigTo_zero (v n : Nat) : bigTo v n 0 = List.replicate n 0 := by simp [bigTo]
theorem bigTo_end (v n : Nat) : bigTo v n n = bigS v n := by
  unfold bigTo; rw [List.take_of_length_le (by rw [bigS_len]; exact Nat.le_refl _), Nat.sub_self]; simp
theorem bigTo_set (v n k : Nat) (h : k < n) : (bigTo v n k).set k (UInt8.ofNat (v / 2 ^ (8 * (n - 1 - k)) % 256)) = bigTo v n (k + 1) := by
  have hl : ((bigS v n).take k).length = k := by rw [List.length_take, bigS_len]; omega
  unfold bigTo
  rw [show n - k = (n - (k + 1)) + 1 by omega, List.replicate_succ]
  have hm := set_mid ((bigS v n).take k) (List.replicate (n - (k + 1)) 0) 0 (UInt8.ofNat (v / 2 ^ (8 * (n - 1 - k)) % 256))
  rw [hl] at hm
  rw [hm, List.take_add_one, bigS_at n v k h]
  simp
theorem bigTo_len (v n k : Nat) (h : k ≤ n) : (bigTo v n k).length = n := by
  unfold bigTo; rw [List.length_append, List.length_take, bigS_len, List.length_replicate]; omega

end Go.Proofs.YtkcpbjoolfojjaaGreatDoor.big
namespace Go.Proofs.YtkcpbjoolfojjaaGreatDoor.val
open Go.RowKit Go.Proofs.YtkcpbjoolfojjaaGreatDoor.kit
set_option linter.unusedVariables false

def valL : List UInt8 → Nat → Nat
  | [], v => v
  | c :: r, v => valL r (v * 256 + c.toNat)
theorem wraps62 (n : Int) (h₀ : 0 ≤ n) (h₁ : n < 2 ^ 62) : IntKind.i64.wrap n = n := by rw [IntKind.wrap_i64]; omega
theorem or8b {x y : Int} (hx₀ : 0 ≤ x) (hx : x % 256 = 0) (hx₁ : x < 4611686018427387904) (h₀ : 0 ≤ y) (h₁ : y < 256) : bits .or .i64 x y = x + y :=
  bits_join .i64 62 (by decide) wraps62 8 x y hx₀ hx hx₁ h₀ h₁ (by omega)

end Go.Proofs.YtkcpbjoolfojjaaGreatDoor.val
namespace Go.Proofs.YtkcpbjoolfojjaaGreatDoor.small
open Go.RowKit Go.Proofs.YtkcpbjoolfojjaaGreatDoor.kit Go.Proofs.YtkcpbjoolfojjaaGreatDoor.val
set_option linter.unusedVariables false

set_option maxRecDepth 100000 in
set_option maxHeartbeats 1000000 in
theorem small_any (s : ByteArray) (w : World) (hs : s.size ≤ 4) :
    Calls Tryz.prog 136 #[.string s] w fun e w' => e = .returned (.int .i64 ((valL s.data.toList 0 : Nat) : Int)) ∧ w = w' := by
  obtain ⟨F, HF⟩ : ∃ F, Hid (valL (s.data.toList.drop 0) 0 = F) := ⟨_, Lib.hid rfl⟩
  rw [show s.data.toList = s.data.toList.drop 0 from rfl, HF.out]
  go_enter Tryz.func136, Tryz.ntmps136
  go_wp2
  go_loopg [3, 4, 7] (s.size + 1) (fun gas sv _ kv wr => ∃ (k S : Nat), kv = .int .i64 k ∧ sv = .int .i64 S ∧ k ≤ s.size ∧ k + gas = s.size + 1 ∧ S < 1099511627776 ∧ Hid (S < 256 ^ k) ∧ Hid (valL (s.data.toList.drop k) S = F) ∧ w = wr)
  case atStart => exact ⟨0, 0, rfl, rfl, by omega, by omega, by omega, Lib.hid (by decide), HF, rfl⟩
  case round =>
    obtain ⟨k, S, rfl, rfl, hk, hkg, hS, HP, HW, rfl⟩ := hrel
    have HK := Lib.hid hkg; clear hkg
    by_cases hlt : k < s.size
    · obtain ⟨c, hc⟩ : ∃ c, s[k] = c := ⟨_, rfl⟩
      have hc256 := byte_lt c
      have HW2 : Hid (valL (s.data.toList.drop (k + 1)) (S * 256 + c.toNat) = F) := Lib.hid (by rw [← HW.out, drop_cons s k hlt, hc, valL])
      have HP2 : Hid (S * 256 + c.toNat < 256 ^ (k + 1)) := Lib.hid (by have := HP.out; rw [Nat.pow_succ]; omega)
      have hb : S * 256 + c.toNat < 1099511627776 := by
        have h1 := HP2.out
        have h2 : 256 ^ (k + 1) ≤ 256 ^ 4 := Nat.pow_le_pow_right (n := 256) (by omega) (show k + 1 ≤ 4 by omega)
        omega
      have x1 := congrArg (Value.int .i64) (or8b (x := (S : Int) * 256) (y := (c.toNat : Int)) (by omega) (by omega) (by omega) (by omega) hc256)
      go_wp2
      have hkg := HK.out
      clear x1
      go_roundg (gk - 1)
      case rel => exact ⟨k + 1, S * 256 + c.toNat, by go_num, (by first | rfl | go_num | (rw [or8b (by omega) (by omega) (by omega) (by omega) hc256]; congr 1; omega) | (rw [or8b (by omega) (by omega) (by omega) (by omega) hc256]; go_num)), by omega, by omega, hb, HP2, HW2, rfl⟩
      case measure => omega
    · have HN := HW.out
      rw [drop_end s k (by omega)] at HN
      have hSF : S = F := HN
      subst hSF
      clear HN
      go_wp2
      go_ret
      exact ⟨rfl, rfl⟩
end Go.Proofs.YtkcpbjoolfojjaaGreatDoor.small
namespace Go.Proofs.YtkcpbjoolfojjaaGreatDoor.takes
open Go.RowKit Go.Proofs.YtkcpbjoolfojjaaGreatDoor.kit Go.Proofs.YtkcpbjoolfojjaaGreatDoor.nspec Go.Proofs.YtkcpbjoolfojjaaGreatDoor.val Go.Proofs.YtkcpbjoolfojjaaGreatDoor.small Go.Proofs.YtkcpbjoolfojjaaGreatDoor.fld
set_option linter.unusedVariables false

theorem emp_yes {s : ByteArray} (h : s.size = 0) : s.toList = [] := by rw [Lib.toList_data]; exact List.eq_nil_of_length_eq_zero (by rw [size_len]; exact h)
theorem emp_no {s : ByteArray} (h : 0 < s.size) : s.toList.isEmpty = false := by
  rw [Lib.toList_data]
  cases hl : s.data.toList with
  | nil => have h3 : s.size = 0 := by rw [← size_len, hl]; rfl
           omega
  | cons => rfl
theorem data_cons {s : ByteArray} (h : 0 < s.size) : s.data.toList = s[0] :: s.data.toList.drop 1 := by have := drop_cons s 0 h; simpa using this
theorem rest_len {s : ByteArray} (h : 0 < s.size) : (s.data.toList.drop 1).length = s.size - 1 := by rw [List.length_drop, size_len]

set_option maxRecDepth 100000 in
theorem num_any (k : Nat) (s : ByteArray) (w : World) (hk : k ≤ 100) (hs : s.size ≤ 1099511627776) :
    Calls Tryz.prog 134 #[.int .i64 (k : Int), .string s] w fun e w' => e = .returned (.int .i64 (takeS (.num k) s.data.toList)) ∧ Below w.heap.size w w' := by
  have HE : Hid (takeS (.num k) s.data.toList = if s.size < k then -1 else (k : Int)) := Lib.hid (by simp only [takeS]; rw [size_len])
  rw [HE.out]
  by_cases h : s.size < k
  · rw [if_pos h]
    have hb : decide (s.size < k) = true := by simpa using h
    go_enter Tryz.func134, Tryz.ntmps134
    go_wp2_with fail
    go_ret
    exact ⟨rfl, Below.refl _ _⟩
  · rw [if_neg h]
    have hb : decide (s.size < k) = false := by simpa using h
    go_enter Tryz.func134, Tryz.ntmps134
    go_wp2_with fail
    go_ret
    exact ⟨rfl, Below.refl _ _⟩

set_option maxRecDepth 100000 in
theorem ip4_any (s : ByteArray) (w : World) (hs : s.size ≤ 1099511627776) :
    Calls Tryz.prog 139 #[.agg #[], .string s] w fun e w' => e = .returned (.int .i64 (takeS .ip4 s.data.toList)) ∧ Below w.heap.size w w' := by
  have C := Lib.hid (fun w => num_any 4 s w (by omega) hs)
  have HE : Hid (takeS (.num 4) s.data.toList = takeS .ip4 s.data.toList) := Lib.hid rfl
  rw [HE.out] at C
  have hBa := Lib.hid ((Below.refl w.heap.size w).alloc (Nat.le_refl _) (.cells #[] 83))
  go_enter Tryz.func139, Tryz.ntmps139
  go_wp2_with fail
  refine (C.out _).mono ?_
  rintro e w1 ⟨rfl, hB1⟩
  have hB := hBa.out.trans (hB1.mono hBa.out.size)
  clear hB1
  go_wp2_with fail
  go_ret
  exact ⟨rfl, hB⟩

set_option maxRecDepth 100000 in
theorem ip6_any (s : ByteArray) (w : World) (hs : s.size ≤ 1099511627776) :
    Calls Tryz.prog 161 #[.agg #[], .string s] w fun e w' => e = .returned (.int .i64 (takeS .ip6 s.data.toList)) ∧ Below w.heap.size w w' := by
  have C := Lib.hid (fun w => num_any 16 s w (by omega) hs)
  have HE : Hid (takeS (.num 16) s.data.toList = takeS .ip6 s.data.toList) := Lib.hid rfl
  rw [HE.out] at C
  have hBa := Lib.hid ((Below.refl w.heap.size w).alloc (Nat.le_refl _) (.cells #[] 87))
  go_enter Tryz.func161, Tryz.ntmps161
  go_wp2_with fail
  refine (C.out _).mono ?_
  rintro e w1 ⟨rfl, hB1⟩
  have hB := hBa.out.trans (hB1.mono hBa.out.size)
  clear hB1
  go_wp2_with fail
  go_ret
  exact ⟨rfl, hB⟩

theorem textS_at {s : ByteArray} (h : 0 < s.size) : textS s.data.toList = if (s.size : Int) ≤ (s[0].toNat : Int) then -1 else 1 + (s[0].toNat : Int) := by
  have hl := rest_len h
  rw [data_cons h]
  simp only [textS]
  by_cases h2 : (s.size : Int) ≤ (s[0].toNat : Int)
  · rw [if_pos (by omega), if_pos h2]
  · rw [if_neg (by omega), if_neg h2]; omega
set_option maxRecDepth 100000 in
theorem text_any (s : ByteArray) (w : World) (hs : s.size ≤ 1099511627776) :
    Calls Tryz.prog 153 #[.agg #[], .string s] w fun e w' => e = .returned (.int .i64 (textS s.data.toList)) ∧ Below w.heap.size w w' := by
  have hBa := Lib.hid ((Below.refl w.heap.size w).alloc (Nat.le_refl _) (.cells #[] 85))
  by_cases h0 : s.size = 0
  · have he := emp_yes h0
    have HE : Hid (textS s.data.toList = -1) := Lib.hid (by rw [← Lib.toList_data, he]; rfl)
    rw [HE.out]
    clear h0
    go_enter Tryz.func153, Tryz.ntmps153
    go_wp2_with fail
    go_ret
    exact ⟨rfl, hBa.out⟩
  · have h1 : 0 < s.size := by omega
    have he := emp_no h1
    have HT := Lib.hid (textS_at h1)
    rw [HT.out]
    obtain ⟨c, hc⟩ : ∃ c, s[0] = c := ⟨_, rfl⟩
    have hc256 := byte_lt c
    rw [hc]
    clear h0
    by_cases h2 : (s.size : Int) ≤ (c.toNat : Int)
    · rw [if_pos h2]
      go_enter Tryz.func153, Tryz.ntmps153
      go_wp2_with fail
      go_ret
      exact ⟨rfl, hBa.out⟩
    · rw [if_neg h2]
      have h2' : (c.toNat : Int) < (s.size : Int) := by omega
      clear h2
      go_enter Tryz.func153, Tryz.ntmps153
      go_wp2_with fail
      go_ret
      exact ⟨rfl, hBa.out⟩

set_option maxRecDepth 100000 in
theorem salt_any (s : ByteArray) (w : World) (hs : s.size ≤ 1099511627776) :
    Calls Tryz.prog 206 #[.agg #[], .string s] w fun e w' => e = .returned (.int .i64 (takeS .salt s.data.toList)) ∧ Below w.heap.size w w' := by
  have C := Lib.hid (fun w => text_any s w hs)
  have hBa := Lib.hid ((Below.refl w.heap.size w).alloc (Nat.le_refl _) (.cells #[] 92))
  have HE : Hid (takeS .salt s.data.toList = textS s.data.toList) := Lib.hid rfl
  rw [HE.out]
  go_enter Tryz.func206, Tryz.ntmps206
  go_wp2_with fail
  refine (C.out _).mono ?_
  rintro e w1 ⟨rfl, hB1⟩
  have hB := hBa.out.trans (hB1.mono hBa.out.size)
  clear hB1
  go_wp2_with fail
  go_ret
  exact ⟨rfl, hB⟩

set_option maxRecDepth 100000 in
theorem hash_any (s : ByteArray) (w : World) (hs : s.size ≤ 1099511627776) :
    Calls Tryz.prog 209 #[.agg #[], .string s] w fun e w' => e = .returned (.int .i64 (takeS .hash s.data.toList)) ∧ Below w.heap.size w w' := by
  have C := Lib.hid (fun w => text_any s w hs)
  have hBa := Lib.hid ((Below.refl w.heap.size w).alloc (Nat.le_refl _) (.cells #[] 93))
  by_cases h0 : s.size = 0
  · have he := emp_yes h0
    have HE : Hid (takeS .hash s.data.toList = -1) := Lib.hid (by rw [← Lib.toList_data, he]; rfl)
    rw [HE.out]
    clear h0
    go_enter Tryz.func209, Tryz.ntmps209
    go_wp2_with fail
    go_ret
    exact ⟨rfl, hBa.out⟩
  · have h1 : 0 < s.size := by omega
    have he := emp_no h1
    obtain ⟨c, hc⟩ : ∃ c, s[0] = c := ⟨_, rfl⟩
    have hd := data_cons h1
    rw [hc] at hd
    clear h0
    by_cases h2 : c = 0
    · have HE : Hid (takeS .hash s.data.toList = -1) := Lib.hid (by simp only [takeS]; rw [if_pos (.inr (by rw [hd]; exact h2))])
      rw [HE.out]
      have hb : ((c.toNat : Int) == 0) = true := by rw [h2]; rfl
      clear h2 hd
      go_enter Tryz.func209, Tryz.ntmps209
      go_wp2_with fail
      go_ret
      exact ⟨rfl, hBa.out⟩
    · have HE : Hid (takeS .hash s.data.toList = textS s.data.toList) := Lib.hid (by
        simp only [takeS]; rw [if_neg]
        rintro (h | h)
        · rw [h] at hd; simp at hd
        · rw [hd] at h; exact h2 h)
      rw [HE.out]
      have hb : ((c.toNat : Int) == 0) = false := by rw [beq_eq_false_iff_ne]; intro h; exact h2 (UInt8.toNat_inj.1 (by simpa using h))
      clear h2 hd
      go_enter Tryz.func209, Tryz.ntmps209
      go_wp2_with fail
      refine (C.out _).mono ?_
      rintro e w1 ⟨rfl, hB1⟩
      have hB := hBa.out.trans (hB1.mono hBa.out.size)
      clear hB1
      go_wp2_with fail
      go_ret
      exact ⟨rfl, hB⟩

set_option maxRecDepth 100000 in
theorem tail_any (s : ByteArray) (w : World) (hs : s.size ≤ 1099511627776) :
    Calls Tryz.prog 214 #[.agg #[], .string s] w fun e w' => e = .returned (.int .i64 (takeS .tail s.data.toList)) ∧ Below w.heap.size w w' := by
  have hBa := Lib.hid ((Below.refl w.heap.size w).alloc (Nat.le_refl _) (.cells #[] 94))
  have HE : Hid (takeS .tail s.data.toList = (s.size : Int)) := Lib.hid (by simp only [takeS]; rw [size_len])
  rw [HE.out]
  go_enter Tryz.func214, Tryz.ntmps214
  go_wp2_with fail
  go_ret
  exact ⟨rfl, hBa.out⟩

set_option maxRecDepth 100000 in
theorem some_any (s : ByteArray) (w : World) (hs : s.size ≤ 1099511627776) :
    Calls Tryz.prog 169 #[.string s] w fun e w' => e = .returned (.int .i64 (someS s.data.toList)) ∧ w = w' := by
  by_cases h0 : s.size = 0
  · have he := emp_yes h0
    have HE : Hid (someS s.data.toList = -1) := Lib.hid (by rw [← Lib.toList_data, he]; rfl)
    rw [HE.out]
    clear h0
    go_enter Tryz.func169, Tryz.ntmps169
    go_wp2_with fail
    go_ret
    exact ⟨rfl, rfl⟩
  · have h1 : 0 < s.size := by omega
    have he := emp_no h1
    have HE : Hid (someS s.data.toList = (s.size : Int)) := Lib.hid (by unfold someS; rw [if_neg (by intro h; rw [← size_len, h] at h1; simp at h1), size_len])
    rw [HE.out]
    clear h0
    go_enter Tryz.func169, Tryz.ntmps169
    go_wp2_with fail
    go_ret
    exact ⟨rfl, rfl⟩

set_option maxRecDepth 100000 in
theorem hexes_any (s : ByteArray) (w : World) (hs : s.size ≤ 1099511627776) :
    Calls Tryz.prog 168 #[.agg #[], .string s] w fun e w' => e = .returned (.int .i64 (takeS .hexes s.data.toList)) ∧ Below w.heap.size w w' := by
  have C := Lib.hid (fun w => some_any s w hs)
  have hBa := Lib.hid ((Below.refl w.heap.size w).alloc (Nat.le_refl _) (.cells #[] 88))
  have HE : Hid (takeS .hexes s.data.toList = someS s.data.toList) := Lib.hid rfl
  rw [HE.out]
  go_enter Tryz.func168, Tryz.ntmps168
  go_wp2_with fail
  refine (C.out _).mono ?_
  rintro e w1 ⟨rfl, rfl⟩
  go_wp2_with fail
  go_ret
  exact ⟨rfl, hBa.out⟩

set_option maxRecDepth 100000 in
theorem b64_any (s : ByteArray) (w : World) (hs : s.size ≤ 1099511627776) :
    Calls Tryz.prog 175 #[.agg #[], .string s] w fun e w' => e = .returned (.int .i64 (takeS .b64 s.data.toList)) ∧ Below w.heap.size w w' := by
  have C := Lib.hid (fun w => some_any s w hs)
  have hBa := Lib.hid ((Below.refl w.heap.size w).alloc (Nat.le_refl _) (.cells #[] 90))
  have HE : Hid (takeS .b64 s.data.toList = someS s.data.toList) := Lib.hid rfl
  rw [HE.out]
  go_enter Tryz.func175, Tryz.ntmps175
  go_wp2_with fail
  refine (C.out _).mono ?_
  rintro e w1 ⟨rfl, rfl⟩
  go_wp2_with fail
  go_ret
  exact ⟨rfl, hBa.out⟩

theorem kind_at {s : ByteArray} (h : 2 ≤ s.size) : takeS .kind s.data.toList = if valL (s.extract 0 2).data.toList 0 = 0 then -1 else 2 := by
  have hl : 2 ≤ s.data.toList.length := by rw [size_len]; exact h
  have he : (s.extract 0 2).data.toList = s.data.toList.take 2 := by rw [Lib.extract_data]; rfl
  rw [he]
  match hd : s.data.toList, hl with
  | a :: b :: r, _ =>
    have ha := a.toNat_lt
    have hb := b.toNat_lt
    simp only [takeS, List.take_succ_cons, List.take_zero, valL, List.length_cons, List.getD_cons_zero, List.getD_cons_succ]
    by_cases h0 : a = 0 ∧ b = 0
    · rw [if_pos (.inr h0), if_pos (by rw [h0.1, h0.2]; rfl)]
    · have hn : ¬ (r.length + 1 + 1 < 2 ∨ (a = 0 ∧ b = 0)) := by
        rintro (h | h)
        · omega
        · exact h0 h
      rw [if_neg hn, if_neg]
      intro h1
      apply h0
      exact ⟨UInt8.toNat_inj.1 (by simp; omega), UInt8.toNat_inj.1 (by simp; omega)⟩
set_option maxRecDepth 100000 in
theorem kind_any (s : ByteArray) (w : World) (hs : s.size ≤ 1099511627776) :
    Calls Tryz.prog 172 #[.agg #[], .string s] w fun e w' => e = .returned (.int .i64 (takeS .kind s.data.toList)) ∧ Below w.heap.size w w' := by
  have hBa := Lib.hid ((Below.refl w.heap.size w).alloc (Nat.le_refl _) (.cells #[] 89))
  by_cases h2 : 2 ≤ s.size
  · have C := Lib.hid (fun w => small_any (s.extract 0 2) w (by rw [ByteArray.size_extract]; omega))
    have HT := Lib.hid (kind_at h2)
    rw [HT.out]
    obtain ⟨v, hv⟩ : ∃ v, valL (s.extract 0 2).data.toList 0 = v := ⟨_, rfl⟩
    rw [hv] at C ⊢
    have h2i : (2 : Int) ≤ (s.size : Int) := by omega
    have hb2 : decide ((s.size : Int) < 2) = false := by rw [decide_eq_false_iff_not]; omega
    clear hv
    by_cases hv0 : v = 0
    · subst hv0
      rw [if_pos rfl]
      go_enter Tryz.func172, Tryz.ntmps172
      go_wp2_with fail
      refine (C.out _).mono ?_
      rintro e w1 ⟨rfl, rfl⟩
      go_wp2_with fail
      go_ret
      exact ⟨rfl, hBa.out⟩
    · rw [if_neg hv0]
      have hb : ((v : Int) == 0) = false := by rw [beq_eq_false_iff_ne]; omega
      clear hv0
      go_enter Tryz.func172, Tryz.ntmps172
      go_wp2_with fail
      refine (C.out _).mono ?_
      rintro e w1 ⟨rfl, rfl⟩
      go_wp2_with fail
      go_ret
      exact ⟨rfl, hBa.out⟩
  · have HE : Hid (takeS .kind s.data.toList = -1) := Lib.hid (by simp only [takeS]; rw [if_pos (.inl (by rw [size_len]; omega))])
    rw [HE.out]
    have h2i : (s.size : Int) < 2 := by omega
    have hb2 : decide ((s.size : Int) < 2) = true := by rw [decide_eq_true_eq]; omega
    clear h2
    go_enter Tryz.func172, Tryz.ntmps172
    go_wp2_with fail
    go_ret
    exact ⟨rfl, hBa.out⟩
end Go.Proofs.YtkcpbjoolfojjaaGreatDoor.takes
