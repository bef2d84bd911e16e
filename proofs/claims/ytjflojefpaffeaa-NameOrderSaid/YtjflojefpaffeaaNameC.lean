/- name.Graft: walk; the law NameGrafts: its walk. -/
import Derived.Test.YtjflojefpaffeaaRefC
namespace Go.Proofs.Ytjflojefpaffeaa.nameC
open Go.RowKit Go.Proofs.Ytjflojefpaffeaa.kit Go.Proofs.Ytjflojefpaffeaa.check Go.Proofs.Ytjflojefpaffeaa.nspec Go.Proofs.Ytjflojefpaffeaa.rsplit Go.Proofs.Ytjflojefpaffeaa.rput Go.Proofs.Ytjflojefpaffeaa.low Go.Proofs.Ytjflojefpaffeaa.refA Go.Proofs.Ytjflojefpaffeaa.refB Go.Proofs.Ytjflojefpaffeaa.nameA Go.Proofs.Ytjflojefpaffeaa.nameB Go.Proofs.Ytjflojefpaffeaa.refC

theorem wF_iff {n z : Bs} : ∀ (g k : Nat), wF n z g k = true ↔ ∃ j, k ≤ j ∧ j < k + g ∧ equalS (tailS n (j : Int)) z = true
  | 0, k => by simp [wF]; intro j h1 h2; omega
  | g + 1, k => by
    simp only [wF]
    by_cases he : equalS (tailS n (k : Int)) z = true
    · rw [if_pos he]; simp only [true_iff]; exact ⟨k, Nat.le_refl _, by omega, he⟩
    · rw [if_neg he, wF_iff g (k + 1)]
      constructor
      · rintro ⟨j, h1, h2, h3⟩; exact ⟨j, by omega, by omega, h3⟩
      · rintro ⟨j, h1, h2, h3⟩
        rcases Nat.lt_or_eq_of_le h1 with h | h
        · exact ⟨j, by omega, by omega, h3⟩
        · subst h; exact absurd h3 he
theorem split_nil : split [] = none := rfl
theorem tail_isN {n : Bs} {l : List Bs} (h : IsN n l) (j : Nat) (hj : j ≤ l.length) : IsN (tailS n (j : Int)) (l.drop (l.length - j)) := by
  rw [tailS_yes h, if_pos ⟨by omega, by omega⟩, Int.toNat_natCast]
  exact isN_put (okL_drop _ h.2.1) (by have := room_drop l (l.length - j); have := isN_room h; omega)
theorem equal_len {a b : Bs} {x y : List Bs} (ha : IsN a x) (hb : IsN b y) (h : equalS a b = true) : x.length = y.length := by
  unfold equalS at h
  rw [split_iff.2 ha, split_iff.2 hb] at h
  simp only [decide_eq_true_eq] at h
  simpa using congrArg List.length h
theorem within_same (n z : Bs) : withinP n z = withinS n z := by
  unfold withinP withinS
  cases hz : split z with
  | none =>
    rw [countS_no hz]
    have : wF n z (countS n + 1).toNat 0 = false := by
      cases h : wF n z (countS n + 1).toNat 0 with
      | false => rfl
      | true =>
        obtain ⟨j, _, _, h3⟩ := (wF_iff _ _).1 h
        rw [equal_no2 hz] at h3; simp at h3
    rw [this]; rfl
  | some zs =>
    have hzs := split_iff.1 hz
    rw [countS_yes hzs]
    rw [decide_eq_true (by omega), Bool.true_and]
    cases hn : split n with
    | none =>
      rw [tailS_no hn, equal_no1 split_nil, countS_no hn]; rfl
    | some l =>
      have hl := split_iff.1 hn
      rw [countS_yes hl]
      rw [Bool.eq_iff_iff, wF_iff]
      constructor
      · intro h
        refine ⟨zs.length, Nat.zero_le _, ?_, h⟩
        by_cases hle : zs.length ≤ l.length
        · omega
        · rw [tailS_yes hl, if_neg (by omega), equal_no1 split_nil] at h; simp at h
      · rintro ⟨j, _, h2, h3⟩
        have hj : j ≤ l.length := by omega
        have := equal_len (tail_isN hl j hj) hzs h3
        rw [List.length_drop] at this
        have e : j = zs.length := by omega
        rw [← e]; exact h3

theorem room_same : ∀ (a b : List Bs), a.map lowL = b.map lowL → room a = room b := by
  intro a b h
  rw [← room_low a, ← room_low b, h]
theorem graft_plain {n f t : Bs} {l x y : List Bs} (hn : IsN n l) (hf : IsN f x) (ht : IsN t y) (hw : withinS n f = true) :
    f.length ≤ n.length ∧ n.take (n.length - f.length) ++ t = put (l.take (l.length - x.length) ++ y) := by
  obtain ⟨h1, h2⟩ := within_len hn hf hw
  have hr := room_same _ _ h2
  have hra : room l = room (l.take (l.length - x.length)) + room (l.drop (l.length - x.length)) := by rw [← room_append, List.take_append_drop]
  have hnl : n.length = room l + 1 := by rw [hn.1, put_length]
  have hfl : f.length = room x + 1 := by rw [hf.1, put_length]
  refine ⟨by omega, ?_⟩
  have hd : n.length - f.length = room (l.take (l.length - x.length)) := by omega
  rw [hd, put_append]
  congr 1
  · rw [hn.1]
    have h : put l = (l.take (l.length - x.length)).flatMap (fun x => UInt8.ofNat x.length :: x) ++ put (l.drop (l.length - x.length)) := by
      rw [← put_append, List.take_append_drop]
    rw [h, ← flat_length]
    exact List.take_left
  · exact ht.1

set_option maxRecDepth 100000 in
set_option maxHeartbeats 1000000 in
theorem ngraft_any (n f t : ByteArray) (w : World) (hn : n.size ≤ 1099511627776) (hf : f.size ≤ 1099511627776) (ht : t.size ≤ 1099511627776) :
    Calls Try.prog 27 #[.string n, .string f, .string t] w fun e w' => e = .returned (.tuple #[.string ⟨(graftS n.data.toList f.data.toList t.data.toList).1.toArray⟩, .int .i64 (graftS n.data.toList f.data.toList t.data.toList).2]) ∧ Below w.heap.size w w' := by
  rcases isB_or n with ⟨l, h1⟩ | h1
  · have e1 := Lib.hid (chk_yes h1)
    rcases isB_or f with ⟨x, h2⟩ | h2
    · have e2 := Lib.hid (chk_yes h2)
      rcases isB_or t with ⟨y, h3⟩ | h3
      · have e3 := Lib.hid (chk_yes h3)
        have hl1 := h1.2.2; have hl2 := h2.2.2; have hl3 := h3.2.2
        rw [size_len] at hl1 hl2 hl3
        have HS := Lib.hid (within_same n.data.toList f.data.toList)
        cases hw : withinS n.data.toList f.data.toList with
        | false =>
          have hg : graftS n.data.toList f.data.toList t.data.toList = ([], 5) := by
            unfold graftS; rw [split_iff.2 h1, split_iff.2 h2, split_iff.2 h3, hw]; rfl
          rw [hg]
          have HW := Lib.hid hw
          clear h1 h2 h3 hw hg
          go_enter Try.func27, Try.ntmps27
          go_wp2_with fail
          refine (check_any n _ hn).mono ?_
          rintro e w1 ⟨rfl, hB1⟩
          rw [e1.out]
          go_wp2_with fail
          refine (check_any f _ hf).mono ?_
          rintro e w2 ⟨rfl, hB2⟩
          have hB12 := hB1.trans (hB2.mono hB1.size)
          rw [e2.out]
          go_wp2_with fail
          refine (check_any t _ ht).mono ?_
          rintro e w3 ⟨rfl, hB3⟩
          have hB13 := hB12.trans (hB3.mono hB12.size)
          rw [e3.out]
          go_wp2_with fail
          refine (nwithin_any n f _ hn hf).mono ?_
          rintro e w4 ⟨rfl, hB4⟩
          rw [HS.out, HW.out]
          go_wp2
          go_ret2
          exact ⟨rfl, hB13.trans (hB4.mono hB13.size)⟩
        | true =>
          obtain ⟨hlen, hput⟩ := graft_plain h1 h2 h3 hw
          have hg : graftS n.data.toList f.data.toList t.data.toList = if 255 < (n.data.toList.take (n.data.toList.length - f.data.toList.length) ++ t.data.toList).length then ([], 4) else (n.data.toList.take (n.data.toList.length - f.data.toList.length) ++ t.data.toList, 0) := by
            unfold graftS; rw [split_iff.2 h1, split_iff.2 h2, split_iff.2 h3, hw, hput]; rfl
          rw [size_len, size_len] at hlen hg
          have hdat : (n.extract 0 (n.size - f.size) ++ t).data.toList = n.data.toList.take (n.size - f.size) ++ t.data.toList := by
            rw [Joins.data_append, Lib.extract_data]; simp
          have hsz : (n.extract 0 (n.size - f.size) ++ t).size = (n.data.toList.take (n.size - f.size) ++ t.data.toList).length := by rw [← hdat, size_len]
          have hsz2 : (n.extract 0 (n.size - f.size)).size = n.size - f.size := by rw [ByteArray.size_extract]; omega
          have HW := Lib.hid hw
          have HG := Lib.hid hg; have HD := Lib.hid hdat
          have hb : (n.size : Int) - (f.size : Int) = ((n.size - f.size : Nat) : Int) := by omega
          clear h1 h2 h3 hw hg hput hdat
          have HZ := Lib.hid hsz; clear hsz
          obtain ⟨m, hm⟩ : ∃ m, n.size - f.size = m := ⟨_, rfl⟩
          have hmn : m ≤ n.size := by omega
          rw [hm] at HG HD HZ hb hsz2
          clear hm
          have HZ2 := Lib.hid hsz2
          have hx1 : (n.extract 0 m).size ≤ 255 := by omega
          clear hsz2
          go_enter Try.func27, Try.ntmps27
          go_wp2_with fail
          refine (check_any n _ hn).mono ?_
          rintro e w1 ⟨rfl, hB1⟩
          rw [e1.out]
          go_wp2_with fail
          refine (check_any f _ hf).mono ?_
          rintro e w2 ⟨rfl, hB2⟩
          have hB12 := hB1.trans (hB2.mono hB1.size)
          rw [e2.out]
          go_wp2_with fail
          refine (check_any t _ ht).mono ?_
          rintro e w3 ⟨rfl, hB3⟩
          have hB13 := hB12.trans (hB3.mono hB12.size)
          rw [e3.out]
          go_wp2_with fail
          refine (nwithin_any n f _ hn hf).mono ?_
          rintro e w4 ⟨rfl, hB4⟩
          have hB14 := hB13.trans (hB4.mono hB13.size)
          rw [HS.out, HW.out]
          have HL : Hid ((n.data.toList.take m ++ t.data.toList).length = m + t.size) := Lib.hid (by
            have := size_len n; have := size_len t
            rw [List.length_append, List.length_take]; omega)
          by_cases hlong : 255 < (m : Int) + (t.size : Int)
          · have HGG := Lib.hid (HG.out.trans (if_pos (by rw [HL.out]; omega)))
            go_wp2
            go_ret2
            exact ⟨ret_se HGG.out.symm, hB14⟩
          · have hlong' : (m : Int) + (t.size : Int) ≤ 255 := by omega
            have HGG := Lib.hid (HG.out.trans (if_neg (by rw [HL.out]; omega)))
            clear hlong
            go_wp2
            go_ret2
            exact ⟨by rw [show (n.extract 0 m ++ t) = ⟨(n.data.toList.take m ++ t.data.toList).toArray⟩ from ba_ext HD.out]; exact ret_se HGG.out.symm, hB14⟩
      · rw [graftS_bad (by rw [h3]; simp)]
        have e3 := Lib.hid (chk_no h3)
        clear h1 h2 h3
        go_enter Try.func27, Try.ntmps27
        go_wp2_with fail
        refine (check_any n _ hn).mono ?_
        rintro e w1 ⟨rfl, hB1⟩
        rw [e1.out]
        go_wp2_with fail
        refine (check_any f _ hf).mono ?_
        rintro e w2 ⟨rfl, hB2⟩
        have hB12 := hB1.trans (hB2.mono hB1.size)
        rw [e2.out]
        go_wp2_with fail
        refine (check_any t _ ht).mono ?_
        rintro e w3 ⟨rfl, hB3⟩
        rw [e3.out]
        go_wp2
        go_ret2
        exact ⟨rfl, hB12.trans (hB3.mono hB12.size)⟩
    · rw [graftS_bad (by rw [h2]; simp)]
      have e2 := Lib.hid (chk_no h2)
      clear h1 h2
      go_enter Try.func27, Try.ntmps27
      go_wp2_with fail
      refine (check_any n _ hn).mono ?_
      rintro e w1 ⟨rfl, hB1⟩
      rw [e1.out]
      go_wp2_with fail
      refine (check_any f _ hf).mono ?_
      rintro e w2 ⟨rfl, hB2⟩
      have hB12 := hB1.trans (hB2.mono hB1.size)
      rw [e2.out]
      go_wp2
      go_ret2
      exact ⟨rfl, hB12⟩
  · rw [graftS_bad (by rw [h1]; simp)]
    have e1 := Lib.hid (chk_no h1)
    clear h1
    go_enter Try.func27, Try.ntmps27
    go_wp2_with fail
    refine (check_any n _ hn).mono ?_
    rintro e w1 ⟨rfl, hB1⟩
    rw [e1.out]
    go_wp2
    go_ret2
    exact ⟨rfl, hB1⟩

set_option maxRecDepth 100000 in
set_option maxHeartbeats 400000 in
theorem walk (n f t : ByteArray) (w : World) (hn : n.size ≤ 1048576) (hf : f.size ≤ 1048576) (ht : t.size ≤ 1048576) :
    Calls Try.prog 8 #[.string n, .string f, .string t] w fun e w' => e = .returned (.bool true) ∧ Below w.heap.size w w' := by
  obtain ⟨R, HR⟩ : ∃ R, Hid (graftS n.data.toList f.data.toList t.data.toList = R) := ⟨_, Lib.hid rfl⟩
  go_enter Try.func8, Try.ntmps8
  go_wp2_with fail
  refine (ngraft_any n f t _ (by omega) (by omega) (by omega)).mono ?_
  rintro e w1 ⟨rfl, hB1⟩
  rw [HR.out]
  go_wp2_with fail
  refine (graft_any n f t _ (by omega) (by omega) (by omega)).mono ?_
  rintro e w2 ⟨rfl, hB2⟩
  rw [HR.out]
  obtain ⟨r1, r2⟩ := R
  go_wp2
  go_ret
  exact ⟨rfl, hB1.trans (hB2.mono hB1.size)⟩
end Go.Proofs.Ytjflojefpaffeaa.nameC
