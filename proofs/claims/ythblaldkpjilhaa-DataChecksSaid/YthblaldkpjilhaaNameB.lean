/- name.lower, Fold, Equal, Within, Common, Parent: walks. -/
import Derived.Test.YthblaldkpjilhaaNameA
namespace Go.Proofs.Ythblaldkpjilhaa.nameB
open Go.RowKit Go.Proofs.Ythblaldkpjilhaa.kit Go.Proofs.Ythblaldkpjilhaa.check Go.Proofs.Ythblaldkpjilhaa.nspec Go.Proofs.Ythblaldkpjilhaa.rsplit Go.Proofs.Ythblaldkpjilhaa.low Go.Proofs.Ythblaldkpjilhaa.refA Go.Proofs.Ythblaldkpjilhaa.refB Go.Proofs.Ythblaldkpjilhaa.nameA

set_option maxRecDepth 100000 in
set_option maxHeartbeats 400000 in
theorem lower_any (s : ByteArray) (w : World) (hs : s.size ≤ maxLen) :
    Calls Try.prog 66 #[.string s] w fun e w' => e = .returned (.string ⟨(lowL s.data.toList).toArray⟩) ∧ Below w.heap.size w w' := by
  unfold maxLen at hs
  have hconv := Lib.run_convert_string_bytes (P := Try.prog) w 9 44 5 s Try.underlying9 Try.underlying44 Try.underlying5
  have hB := bytesWorld_below w 5 s
  have hb0 := bytes_new w 5 s
  generalize grownCap w s.size 0 5 = cap at hconv
  generalize Lib.bytesWorld w 5 s = w1 at hconv hB hb0
  have H0 := Lib.hid hb0; clear hb0
  go_enter Try.func66, Try.ntmps66
  go_wp2
  clear hconv
  go_loopg [10] (s.size) (fun gas i wr => ∃ k : Nat, k + gas = s.size ∧ i = .int .i64 k ∧ Below w.heap.size w wr ∧ Hid (Bytes wr w.heap.size (lowTo k s.data.toList)))
  case atStart => exact ⟨0, by omega, rfl, hB, by rw [lowTo_zero]; exact H0⟩
  case round =>
    obtain ⟨k, hkg, rfl, hBr, hbr⟩ := hrel
    have hk : k ≤ s.size := by omega
    have HK := Lib.hid hkg; clear hkg
    clear hB H0
    by_cases hlt : k < s.size
    · obtain ⟨c, hc⟩ : ∃ c, s.data.toList[k]? = some c := ⟨_, List.getElem?_eq_getElem (by simpa using hlt)⟩
      obtain ⟨hcell, hfr⟩ := hbr.out k c (by rw [lowTo_at k _ (by simpa using hk)]; exact hc)
      have HC := Lib.hid hc
      clear hc
      obtain ⟨n, hn, hn0, hn1, hup, hlo⟩ : ∃ n : Int, n = (c.toNat : Int) ∧ 0 ≤ n ∧ n < 256 ∧ (65 ≤ n ∧ n ≤ 90 → ((lowB c).toNat : Int) = n + 32) ∧ (¬ (65 ≤ n ∧ n ≤ 90) → lowB c = c) :=
        ⟨_, rfl, by omega, byte_lt c, fun h => up_val c (by omega), fun h => lowB_id c (by omega)⟩
      rw [← hn] at hcell
      have HU := Lib.hid hup; have HL := Lib.hid hlo
      clear hup hlo hn
      by_cases hup : 65 ≤ n ∧ n ≤ 90
      · have hlow := HU.out hup
        have hset := bytes_set hbr.out k (lowB c)
        rw [lowTo_succ k _ c HC.out, hlow] at hset
        have HS := Lib.hid hset; clear hset hlow
        obtain ⟨h1, h2⟩ := hup
        go_wp2
        have hkg := HK.out
        go_roundg (gk - 1)
        case rel => exact ⟨k + 1, by omega, by go_num, hBr.setCell (Nat.le_refl _) _, HS⟩
        case measure => omega
      · have hsk := lowTo_skip k _ c HC.out (HL.out hup)
        have HS := Lib.hid hsk; clear hsk
        by_cases h1 : 65 ≤ n
        · have h2 : ¬ n ≤ 90 := by omega
          clear hup
          go_wp2
          have hkg := HK.out
          go_roundg (gk - 1)
          case rel => exact ⟨k + 1, by omega, by go_num, hBr, by rw [← HS.out]; exact hbr⟩
          case measure => omega
        · clear hup
          go_wp2
          have hkg := HK.out
          go_roundg (gk - 1)
          case rel => exact ⟨k + 1, by omega, by go_num, hBr, by rw [← HS.out]; exact hbr⟩
          case measure => omega
    · have hke : k = s.data.toList.length := by simp; omega
      have hfin := hbr.out
      rw [hke, lowTo_all] at hfin
      have hback := bytes_back (P := Try.prog) hfin 44 9 5 cap s.size (by simp [lowL]) Try.underlying44 Try.underlying5 Try.underlying9
      clear hfin
      have HKE := Lib.hid hke; clear hke
      go_wp2
      go_ret
      exact ⟨rfl, hBr⟩

theorem low_of_small (c : UInt8) (h : c.toNat ≤ 63) : lowB c = c := lowB_id c (by omega)
theorem low_put {ls : List Bs} (h : okL ls) : lowL (put ls) = put (ls.map lowL) := by
  induction ls with
  | nil => rfl
  | cons x r ih =>
    obtain ⟨⟨h1, h2⟩, h3⟩ := okL_cons.1 h
    have hn : (UInt8.ofNat x.length).toNat = x.length := nat_of (by omega)
    have := ih h3
    simp only [lowL, put, List.map_cons, List.map_append, List.length_map] at this ⊢
    rw [low_of_small _ (by omega), this]
theorem fold_low {l : Bs} {ls : List Bs} (h : IsN l ls) : foldS l = lowL l := by rw [foldS_yes h, h.1, low_put h.2.1]
theorem equal_low {a b : Bs} {x y : List Bs} (ha : IsN a x) (hb : IsN b y) : equalS a b = decide (lowL a = lowL b) := by
  rw [equalS_eq, split_iff.2 ha, split_iff.2 hb, fold_low ha, fold_low hb]; rfl
theorem equal_no1 {a b : Bs} (h : split a = none) : equalS a b = false := by rw [equalS_eq, h]; rfl
theorem equal_no2 {a b : Bs} (h : split b = none) : equalS a b = false := by rw [equalS_eq, h]; simp

set_option maxRecDepth 100000 in
theorem nfold_any (s : ByteArray) (w : World) (hs : s.size ≤ 1099511627776) :
    Calls Try.prog 17 #[.string s] w fun e w' => e = .returned (.string ⟨(foldS s.data.toList).toArray⟩) ∧ Below w.heap.size w w' := by
  rcases isB_or s with ⟨ls, h⟩ | h
  · rw [fold_low h]
    have HK := Lib.hid (chk_yes h); clear h
    go_enter Try.func17, Try.ntmps17
    go_wp2_with fail
    refine (check_any s _ hs).mono ?_
    rintro e w1 ⟨rfl, hB1⟩
    rw [HK.out]
    go_wp2_with fail
    refine (lower_any s _ (by unfold maxLen; omega)).mono ?_
    rintro e w2 ⟨rfl, hB2⟩
    go_wp2
    go_ret
    exact ⟨rfl, hB1.trans (hB2.mono hB1.size)⟩
  · rw [foldS_no h]
    have HK := Lib.hid (chk_no h); clear h
    go_enter Try.func17, Try.ntmps17
    go_wp2_with fail
    refine (check_any s _ hs).mono ?_
    rintro e w1 ⟨rfl, hB1⟩
    rw [HK.out]
    go_wp2
    go_ret
    exact ⟨rfl, hB1⟩

set_option maxRecDepth 100000 in
set_option maxHeartbeats 1000000 in
theorem nequal_any (s t : ByteArray) (w : World) (hs : s.size ≤ 1099511627776) (ht : t.size ≤ 1099511627776) :
    Calls Try.prog 19 #[.string s, .string t] w fun e w' => e = .returned (.bool (equalS s.data.toList t.data.toList)) ∧ Below w.heap.size w w' := by
  rcases isB_or s with ⟨ls, h⟩ | h
  · have HK := Lib.hid (chk_yes h)
    rcases isB_or t with ⟨ms, h2⟩ | h2
    · rw [equal_low h h2]
      have HK2 := Lib.hid (chk_yes h2); clear h h2
      go_enter Try.func19, Try.ntmps19
      go_wp2_with fail
      refine (check_any s _ hs).mono ?_
      rintro e w1 ⟨rfl, hB1⟩
      rw [HK.out]
      go_wp2_with fail
      refine (check_any t _ ht).mono ?_
      rintro e w2 ⟨rfl, hB2⟩
      rw [HK2.out]
      have hB12 := hB1.trans (hB2.mono hB1.size)
      go_wp2_with fail
      refine (lower_any s _ (by unfold maxLen; omega)).mono ?_
      rintro e w3 ⟨rfl, hB3⟩
      have hB13 := hB12.trans (hB3.mono hB12.size)
      go_wp2_with fail
      refine (lower_any t _ (by unfold maxLen; omega)).mono ?_
      rintro e w4 ⟨rfl, hB4⟩
      have hB14 := hB13.trans (hB4.mono hB13.size)
      have HBD := Lib.hid (beq_dec (lowL s.data.toList) (lowL t.data.toList))
      go_wp2
      go_ret
      refine ⟨ret_bool ?_, hB14⟩
      first | exact HBD.out | (rw [← HBD.out]; simp [Lib.toList_data])
    · rw [equal_no2 h2]
      have HK2 := Lib.hid (chk_no h2); clear h h2
      go_enter Try.func19, Try.ntmps19
      go_wp2_with fail
      refine (check_any s _ hs).mono ?_
      rintro e w1 ⟨rfl, hB1⟩
      rw [HK.out]
      go_wp2_with fail
      refine (check_any t _ ht).mono ?_
      rintro e w2 ⟨rfl, hB2⟩
      rw [HK2.out]
      have hB12 := hB1.trans (hB2.mono hB1.size)
      go_wp2
      go_ret
      exact ⟨rfl, hB12⟩
  · rw [equal_no1 h]
    have HK := Lib.hid (chk_no h); clear h
    go_enter Try.func19, Try.ntmps19
    go_wp2_with fail
    refine (check_any s _ hs).mono ?_
    rintro e w1 ⟨rfl, hB1⟩
    rw [HK.out]
    go_wp2
    go_ret
    exact ⟨rfl, hB1⟩

def withinP (n z : Bs) : Bool := decide (0 ≤ countS z) && equalS (tailS n (countS z)) z
set_option maxRecDepth 100000 in
theorem nwithin_any (s t : ByteArray) (w : World) (hs : s.size ≤ 1099511627776) (ht : t.size ≤ 1099511627776) :
    Calls Try.prog 24 #[.string s, .string t] w fun e w' => e = .returned (.bool (withinP s.data.toList t.data.toList)) ∧ Below w.heap.size w w' := by
  unfold withinP
  obtain ⟨C, hC⟩ : ∃ C, countS t.data.toList = C := ⟨_, rfl⟩
  rw [hC]
  have HC := Lib.hid hC; clear hC
  go_enter Try.func24, Try.ntmps24
  go_wp2_with fail
  refine (ncount_any t _ ht).mono ?_
  rintro e w1 ⟨rfl, hB1⟩
  rw [HC.out]
  by_cases h0 : 0 ≤ C
  · have hd : decide (0 ≤ C) = true := by simpa using h0
    go_wp2_with fail
    refine (ntail_any s C _ hs).mono ?_
    rintro e w2 ⟨rfl, hB2⟩
    have hB12 := hB1.trans (hB2.mono hB1.size)
    have htl := tailS_len s.data.toList C
    go_wp2_with fail
    refine (nequal_any _ t _ (by rw [mk_size]; omega) ht).mono ?_
    rintro e w3 ⟨rfl, hB3⟩
    rw [mk_data]
    go_wp2
    go_ret
    exact ⟨ret_bool (by simp [h0]), hB12.trans (hB3.mono hB12.size)⟩
  · have hd : decide (0 ≤ C) = false := by simpa using h0
    have h1 : C < 0 := by omega
    go_wp2
    go_ret
    exact ⟨ret_bool (by rw [hd]; rfl), hB1⟩

def comF (a b : Bs) : Nat → Bs
  | 0 => []
  | g + 1 => if equalS (tailS a g) (tailS b g) then tailS a g else comF a b g
def commonP (a b : Bs) : Bs := comF a b (min (countS a) (countS b) + 1).toNat
theorem comF_yes {a b : Bs} {g : Nat} {R : Bs} (h : comF a b (g + 1) = R) (he : equalS (tailS a g) (tailS b g) = true) : tailS a g = R := by
  rw [← h]; simp only [comF]; rw [if_pos he]
theorem comF_no {a b : Bs} {g : Nat} {R : Bs} (h : comF a b (g + 1) = R) (he : equalS (tailS a g) (tailS b g) = false) : comF a b g = R := by
  rw [← h]; simp only [comF]; rw [he]; simp
theorem tailS_neg (l : Bs) (k : Int) (h : k < 0) : tailS l k = [] := by
  unfold tailS
  cases split l with
  | none => rfl
  | some ls => simp only; rw [if_neg (by omega)]

set_option maxRecDepth 100000 in
theorem nparent_any (s : ByteArray) (w : World) (hs : s.size ≤ 1099511627776) :
    Calls Try.prog 23 #[.string s] w fun e w' => e = .returned (.string ⟨(parentS s.data.toList).toArray⟩) ∧ Below w.heap.size w w' := by
  have hC := countS_bd s.data.toList
  have hp : tailS s.data.toList (countS s.data.toList - 1) = parentS s.data.toList := by
    rcases isB_or s with ⟨ls, h⟩ | h
    · rw [countS_yes h, tailS_yes h]
      cases ls with
      | nil => rw [parentS_root h, if_neg (by simp)]
      | cons x r =>
        rw [parentS_yes h, if_pos (by simp; omega)]
        have : (x :: r).length - (((x :: r).length : Int) - 1).toNat = 1 := by simp
        rw [this]; rfl
    · rw [tailS_no h, parentS_no h]
  obtain ⟨hc1, hc2⟩ := hC
  obtain ⟨C, hCC⟩ : ∃ C, countS s.data.toList = C := ⟨_, rfl⟩
  rw [hCC] at hp hc1 hc2
  have HC := Lib.hid hCC; clear hCC
  have HP := Lib.hid hp; clear hp
  go_enter Try.func23, Try.ntmps23
  go_wp2_with fail
  refine (ncount_any s _ hs).mono ?_
  rintro e w1 ⟨rfl, hB1⟩
  rw [HC.out]
  go_wp2_with fail
  refine (ntail_any s (C - 1) _ hs).mono ?_
  rintro e w2 ⟨rfl, hB2⟩
  rw [HP.out]
  go_wp2
  go_ret
  exact ⟨rfl, hB1.trans (hB2.mono hB1.size)⟩
end Go.Proofs.Ythblaldkpjilhaa.nameB
