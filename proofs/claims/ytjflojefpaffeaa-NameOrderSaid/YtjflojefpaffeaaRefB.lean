/- The reference's Within, Common: walks. -/
import Derived.Test.YtjflojefpaffeaaRefA
namespace Go.Proofs.Ytjflojefpaffeaa.refB
open Go.RowKit Go.Proofs.Ytjflojefpaffeaa.kit Go.Proofs.Ytjflojefpaffeaa.nspec Go.Proofs.Ytjflojefpaffeaa.rsplit Go.Proofs.Ytjflojefpaffeaa.rput Go.Proofs.Ytjflojefpaffeaa.low Go.Proofs.Ytjflojefpaffeaa.refA

theorem tailS_len (l : Bs) (k : Int) : (tailS l k).length ≤ 255 := by
  unfold tailS
  cases h : split l with
  | none => simp
  | some ls =>
    simp only
    split
    · rw [put_length]; have := isN_room (split_iff.1 h); have := room_drop ls (ls.length - k.toNat); omega
    · simp
theorem countS_bd (l : Bs) : -1 ≤ countS l ∧ countS l ≤ 254 := by
  unfold countS
  cases h : split l with
  | none => simp
  | some ls => have := split_len (split_iff.1 h); simp only; omega

def wF (n z : Bs) : Nat → Nat → Bool
  | 0, _ => false
  | g + 1, k => if equalS (tailS n k) z then true else wF n z g (k + 1)
def withinS (n z : Bs) : Bool := wF n z (countS n + 1).toNat 0
theorem wF_yes {n z : Bs} {g k : Nat} {R : Bool} (h : wF n z g k = R) (hg : 0 < g) (he : equalS (tailS n k) z = true) : true = R := by
  obtain ⟨f, rfl⟩ : ∃ f, g = f + 1 := ⟨g - 1, by omega⟩
  rw [← h]; simp only [wF]; rw [if_pos he]
theorem wF_no {n z : Bs} {g k : Nat} {R : Bool} (h : wF n z g k = R) (hg : 0 < g) (he : equalS (tailS n k) z = false) : wF n z (g - 1) (k + 1) = R := by
  obtain ⟨f, rfl⟩ : ∃ f, g = f + 1 := ⟨g - 1, by omega⟩
  rw [← h]; simp only [wF]; rw [he]; simp

set_option maxRecDepth 100000 in
set_option maxHeartbeats 1000000 in
theorem within_any (s t : ByteArray) (w : World) (hs : s.size ≤ 1099511627776) (ht : t.size ≤ 1099511627776) :
    Calls Try.prog 46 #[.string s, .string t] w fun e w' => e = .returned (.bool (withinS s.data.toList t.data.toList)) ∧ Below w.heap.size w w' := by
  obtain ⟨R, HR⟩ : ∃ R, Hid (R = withinS s.data.toList t.data.toList) := ⟨_, Lib.hid rfl⟩
  obtain ⟨hC0, hC1⟩ := countS_bd s.data.toList
  have HC : Hid (wF s.data.toList t.data.toList (countS s.data.toList + 1).toNat 0 = R) := Lib.hid (by rw [HR.out]; rfl)
  obtain ⟨C, hC⟩ : ∃ C, countS s.data.toList = C := ⟨_, rfl⟩
  rw [hC] at hC0 hC1 HC
  have HCC := Lib.hid hC; clear hC
  go_enter Try.func46, Try.ntmps46
  go_wp2
  go_loopg [5] ((C + 1).toNat) (fun gas kv wr => ∃ (k : Nat), kv = .int .i64 k ∧ (k : Int) + gas = C + 1 ∧ Below w.heap.size w wr ∧ Hid (wF s.data.toList t.data.toList gas k = R))
  case atStart => exact ⟨0, rfl, by omega, Below.refl _ _, HC⟩
  case round =>
    obtain ⟨k, rfl, hk, hB, HW⟩ := hrel
    have hk' : (k : Int) ≤ C + 1 := by omega
    have HK := Lib.hid hk
    by_cases hlt : (k : Int) ≤ C
    · have hg : 0 < gk := by omega
      clear hk
      go_wp2_with fail
      refine (count_any s _ hs).mono ?_
      rintro e w1 ⟨rfl, hB1⟩
      rw [HCC.out]
      have hBB := hB.trans (hB1.mono hB.size)
      go_wp2_with fail
      refine (tail_any s k _ hs).mono ?_
      rintro e w2 ⟨rfl, hB2⟩
      have hBC := hBB.trans (hB2.mono hBB.size)
      have htl := tailS_len s.data.toList k
      go_wp2_with fail
      refine (equal_any _ t _ (by rw [mk_size]; omega) ht).mono ?_
      rintro e w3 ⟨rfl, hB3⟩
      have hBD := hBC.trans (hB3.mono hBC.size)
      rw [mk_data]
      obtain ⟨b, hb⟩ : ∃ b, equalS (tailS s.data.toList k) t.data.toList = b := ⟨_, rfl⟩
      rw [hb]
      have HE := Lib.hid hb; clear hb htl
      cases b
      · go_wp2
        have hk := HK.out
        go_roundg (gk - 1)
        case rel => exact ⟨k + 1, by go_num, by omega, hBD, Lib.hid (wF_no HW.out hg HE.out)⟩
        case measure => omega
      · go_wp2
        go_ret
        exact ⟨ret_bool ((wF_yes HW.out hg HE.out).trans HR.out), hBD⟩
    · have hg : gk = 0 := by omega
      subst hg
      have HF : Hid (false = R) := Lib.hid (by rw [← HW.out]; rfl)
      clear hk
      go_wp2_with fail
      refine (count_any s _ hs).mono ?_
      rintro e w1 ⟨rfl, hB1⟩
      rw [HCC.out]
      have hBB := hB.trans (hB1.mono hB.size)
      go_wp2
      go_ret
      exact ⟨ret_bool (HF.out.trans HR.out), hBB⟩

def cF (a b : Bs) : Nat → Bs
  | 0 => []
  | g + 1 => if withinS b (tailS a g) then tailS a g else cF a b g
def commonS (a b : Bs) : Bs := cF a b (countS a + 1).toNat
theorem cF_yes {a b : Bs} {g : Nat} {R : Bs} (h : cF a b (g + 1) = R) (he : withinS b (tailS a g) = true) : tailS a g = R := by
  rw [← h]; simp only [cF]; rw [if_pos he]
theorem cF_no {a b : Bs} {g : Nat} {R : Bs} (h : cF a b (g + 1) = R) (he : withinS b (tailS a g) = false) : cF a b g = R := by
  rw [← h]; simp only [cF]; rw [he]; simp

set_option maxRecDepth 100000 in
set_option maxHeartbeats 1000000 in
theorem common_any (s t : ByteArray) (w : World) (hs : s.size ≤ 1099511627776) (ht : t.size ≤ 1099511627776) :
    Calls Try.prog 48 #[.string s, .string t] w fun e w' => e = .returned (.string ⟨(commonS s.data.toList t.data.toList).toArray⟩) ∧ Below w.heap.size w w' := by
  obtain ⟨R, HR⟩ : ∃ R, Hid (R = commonS s.data.toList t.data.toList) := ⟨_, Lib.hid rfl⟩
  obtain ⟨hC0, hC1⟩ := countS_bd s.data.toList
  have HC : Hid (cF s.data.toList t.data.toList (countS s.data.toList + 1).toNat = R) := Lib.hid (by rw [HR.out]; rfl)
  obtain ⟨C, hC⟩ : ∃ C, countS s.data.toList = C := ⟨_, rfl⟩
  rw [hC] at hC0 hC1 HC
  have HCC := Lib.hid hC; clear hC
  go_enter Try.func48, Try.ntmps48
  go_wp2_with fail
  refine (count_any s _ hs).mono ?_
  rintro e w1 ⟨rfl, hB1⟩
  rw [HCC.out]
  go_wp2
  go_loopg [5] ((C + 1).toNat) (fun gas kv wr => ∃ (k : Int), kv = .int .i64 k ∧ k + 1 = gas ∧ k ≤ 254 ∧ Below w.heap.size w wr ∧ Hid (cF s.data.toList t.data.toList gas = R))
  case atStart => exact ⟨C, rfl, by omega, by omega, hB1, HC⟩
  case round =>
    obtain ⟨k, rfl, hk, hk254, hB, HW⟩ := hrel
    by_cases hlt : 0 ≤ k
    · obtain ⟨m, rfl⟩ := Int.eq_ofNat_of_zero_le hlt
      obtain rfl : gk = m + 1 := by omega
      clear hk
      go_wp2_with fail
      refine (tail_any s m _ hs).mono ?_
      rintro e w2 ⟨rfl, hB2⟩
      have hBC := hB.trans (hB2.mono hB.size)
      have htl := tailS_len s.data.toList m
      go_wp2_with fail
      refine (within_any t _ _ ht (by rw [mk_size]; omega)).mono ?_
      rintro e w3 ⟨rfl, hB3⟩
      have hBD := hBC.trans (hB3.mono hBC.size)
      rw [mk_data]
      obtain ⟨b, hb⟩ : ∃ b, withinS t.data.toList (tailS s.data.toList m) = b := ⟨_, rfl⟩
      rw [hb]
      have HE := Lib.hid hb; clear hb htl
      cases b
      · have HN := Lib.hid (cF_no HW.out HE.out)
        go_wp2
        go_roundg m
        case rel => exact ⟨_, rfl, by omega, by omega, hBD, HN⟩
        case measure => omega
      · have HY := Lib.hid (cF_yes HW.out HE.out)
        go_wp2_with fail
        refine (tail_any s m _ hs).mono ?_
        rintro e w4 ⟨rfl, hB4⟩
        have hBE := hBD.trans (hB4.mono hBD.size)
        go_wp2
        go_ret
        exact ⟨ret_str (by rw [HY.out, HR.out]), hBE⟩
    · obtain rfl : gk = 0 := by omega
      have HF : Hid ([] = R) := Lib.hid (by rw [← HW.out]; rfl)
      have hlt' : k < 0 := by omega
      clear hk hlt
      go_wp2
      go_ret
      exact ⟨ret_str (by rw [← HR.out, ← HF.out]), hB⟩
end Go.Proofs.Ytjflojefpaffeaa.refB
