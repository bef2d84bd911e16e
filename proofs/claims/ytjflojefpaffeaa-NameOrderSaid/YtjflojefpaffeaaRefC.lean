/- The reference's Graft: walk. -/
import Derived.Test.YtjflojefpaffeaaNameB
namespace Go.Proofs.Ytjflojefpaffeaa.refC
open Go.RowKit Go.Proofs.Ytjflojefpaffeaa.kit Go.Proofs.Ytjflojefpaffeaa.nspec Go.Proofs.Ytjflojefpaffeaa.rsplit Go.Proofs.Ytjflojefpaffeaa.rput Go.Proofs.Ytjflojefpaffeaa.low Go.Proofs.Ytjflojefpaffeaa.refA Go.Proofs.Ytjflojefpaffeaa.refB Go.Proofs.Ytjflojefpaffeaa.nameB

/-- the row of cells that Split has made can be the source of an append -/
theorem SV.src {w : World} {g : Nat} {ls : List Bs} (m : Nat) (hc : ∀ (j : Nat) (x : Bs), ls[j]? = some x → w.cell? ⟨g, j, none⟩ = some (strV x)) :
    ∀ (j : Nat) (u : Value), ((ls.take m).map strV)[j]? = some u → w.cell? ((⟨g, 0, none⟩ : Addr).add j) = some u := by
  intro j u hu
  rw [List.getElem?_map] at hu
  cases hx : (ls.take m)[j]? with
  | none => rw [hx] at hu; simp at hu
  | some x =>
    rw [hx] at hu
    have hx' : ls[j]? = some x := by
      rw [List.getElem?_take] at hx; split at hx
      · exact hx
      · simp at hx
    have : u = strV x := by simpa using hu.symm
    subst this
    rw [addr_add]; exact hc j x hx'
theorem one_str (ls : List Bs) : ∀ u ∈ ls.map strV, u.oneCell' = true := by
  intro u hu; obtain ⟨x, _, rfl⟩ := List.mem_map.1 hu; rfl

def graftS (n f t : Bs) : Bs × Int :=
  match split n, split f, split t with
  | some l, some x, some y => if withinS n f then (if 255 < (put (l.take (l.length - x.length) ++ y)).length then ([], 4) else (put (l.take (l.length - x.length) ++ y), 0)) else ([], 5)
  | _, _, _ => ([], 1)
theorem ret_se {a : Bs} {b : Int} {p : Bs × Int} (h : (a, b) = p) : Ending.returned (.tuple #[.string ⟨a.toArray⟩, .int .i64 b]) = .returned (.tuple #[.string ⟨p.1.toArray⟩, .int .i64 p.2]) := by subst h; rfl

/-- append onto a nil list, then onto that, and Put: the part of Graft behind its tests -/
theorem within_len {n f : Bs} {l x : List Bs} (hn : IsN n l) (hf : IsN f x) (h : withinS n f = true) : x.length ≤ l.length ∧ (l.drop (l.length - x.length)).map lowL = x.map lowL := by
  have key : ∀ (g k : Nat), wF n f g k = true → ∃ j : Nat, equalS (tailS n (j : Int)) f = true := by
    intro g
    induction g with
    | zero => intro k h; simp [wF] at h
    | succ g ih =>
      intro k h
      simp only [wF] at h
      by_cases he : equalS (tailS n (k : Int)) f = true
      · exact ⟨k, he⟩
      · rw [if_neg he] at h; exact ih _ h
  obtain ⟨j, hj⟩ := key _ _ h
  rw [tailS_yes hn] at hj
  by_cases hjl : (0 : Int) ≤ (j : Int) ∧ (j : Int) ≤ (l.length : Int)
  · rw [if_pos hjl, Int.toNat_natCast] at hj
    have hd := isN_put (okL_drop (l.length - j) hn.2.1) (by have := room_drop l (l.length - j); have := isN_room hn; omega)
    have := hj
    unfold equalS at this
    rw [split_iff.2 hd, split_iff.2 hf] at this
    simp only [decide_eq_true_eq] at this
    have hlen := congrArg List.length this
    simp only [List.length_map, List.length_drop] at hlen
    have hjx : j = x.length := by omega
    subst hjx
    exact ⟨by omega, this⟩
  · rw [if_neg hjl] at hj
    have : split [] = none := rfl
    rw [equal_no1 this] at hj; simp at hj

set_option maxRecDepth 100000 in
set_option maxHeartbeats 2000000 in
theorem graft_yes (n f t : ByteArray) (l x y : List Bs) (w : World) (hn : IsN n.data.toList l) (hf : IsN f.data.toList x) (ht : IsN t.data.toList y) (hw : withinS n.data.toList f.data.toList = true) :
    Calls Try.prog 28 #[.string n, .string f, .string t] w fun e w' => e = .returned (.tuple #[.string ⟨(graftS n.data.toList f.data.toList t.data.toList).1.toArray⟩, .int .i64 (graftS n.data.toList f.data.toList t.data.toList).2]) ∧ Below w.heap.size w w' := by
  obtain ⟨i0, hi, hz0, hz1, hz2⟩ := info_parts infoStr
  have hl := split_len hn
  have hx := split_len hf
  have hy := split_len ht
  have hrl := isN_room hn
  have hry := isN_room ht
  obtain ⟨hxl, _⟩ := within_len hn hf hw
  have hs1 : n.size ≤ 255 := by have := hn.2.2; rwa [size_len] at this
  have hs2 : f.size ≤ 255 := by have := hf.2.2; rwa [size_len] at this
  have HW := Lib.hid hw; clear hw
  have HN := Lib.hid hn; have HF := Lib.hid hf; have HT := Lib.hid ht; clear hn hf ht
  obtain ⟨m, hm⟩ : ∃ m, m + x.length = l.length := ⟨l.length - x.length, by omega⟩
  have hme : l.length - x.length = m := by omega
  have hgs : graftS n.data.toList f.data.toList t.data.toList = if 255 < (put (l.take m ++ y)).length then ([], 4) else (put (l.take m ++ y), 0) := by
    unfold graftS; rw [split_iff.2 HN.out, split_iff.2 HF.out, split_iff.2 HT.out, HW.out]; simp only [↓reduceIte, hme]
  have hmi : (l.length : Int) - (x.length : Int) = (m : Int) := by omega
  have hml : m ≤ l.length := by omega
  obtain ⟨lt, hlt⟩ : ∃ lt, lt = l.take m := ⟨_, rfl⟩
  have hltl : lt.length = m := by rw [hlt]; simp; omega
  have hltr : room lt ≤ 254 := by rw [hlt]; have := room_take l m; omega
  rw [← hlt] at hgs
  have HG := Lib.hid hgs; have HLT := Lib.hid hlt; have HLTL := Lib.hid hltl; clear hgs hlt hltl
  have HM := Lib.hid hm; clear hm hme
  go_enter Try.func28, Try.ntmps28
  go_wp2_with fail
  refine (split_yes n l _ HN.out).mono ?_
  rintro e w1 ⟨v1, rfl, hsv1, hB1⟩
  go_wp2_with fail
  refine (split_yes f x _ HF.out).mono ?_
  rintro e w2 ⟨v2, rfl, hsv2, hB2⟩
  have hsv1b := hsv1.below hB2 rfl
  have hB12 := hB1.trans (hB2.mono hB1.size)
  obtain ⟨a2, c2, rfl, _⟩ := hsv2.rd
  go_wp2_with fail
  refine (split_yes t y _ HT.out).mono ?_
  rintro e w3 ⟨v3, rfl, hsv3, hB3⟩
  have hsv1c := hsv1b.below hB3 rfl
  have hB13 := hB12.trans (hB3.mono hB12.size)
  go_wp2_with fail
  refine (within_any n f _ (by omega) (by omega)).mono ?_
  rintro e w4 ⟨rfl, hB4⟩
  rw [HW.out]
  have hsv1d := hsv1c.below hB4 rfl
  have hsv3d := hsv3.below hB4 rfl
  have hB14 := hB13.trans (hB4.mono hB13.size)
  have hz14 := hB14.size
  clear hB1 hB2 hB3 hB4 hB12 hB13 hsv1 hsv1b hsv1c hsv3 hsv2
  have hfin : ∀ (v' : Value) (w' : World), w'.ownsRow w4.heap.size 9 1 v' (m + y.length) (lt.map strV ++ y.map strV) → ∃ a c, v' = .slice a (lt ++ y).length c ∧ Rd w' a 0 (lt ++ y) := by
    intro v' w' h
    have hlen : (lt ++ y).length = m + y.length := by rw [List.length_append, HLTL.out]
    rw [← hlen, ← List.map_append] at h
    obtain ⟨a, c, h1, h2⟩ := Rd.of_own h
    exact ⟨a, c, h1, h2.mono (Nat.zero_le _)⟩
  have HFI := Lib.hid hfin; clear hfin
  have hroom : room (lt ++ y) ≤ 508 := by rw [room_append]; omega
  have hlen2 : (lt ++ y).length ≤ 508 := by rw [List.length_append, HLTL.out]; omega
  rcases hsv1d with ⟨hl0, rfl⟩ | ⟨hne, g, c, rfl, h1, h2, h3, h4, h5⟩
  · have hm0 : m = 0 := by rw [hl0] at hml; simpa using hml
    have HM0 := Lib.hid hm0; clear hm0
    have hx0 : x.length = 0 := by rw [hl0] at hxl; simpa using hxl
    have HL0 := Lib.hid hl0; clear hl0
    go_wp2_with (first | (at_builtin; refine wpList_append_src rfl (.tmp 44) (.tmp 51) 55 rfl w4.heap.size 9 i0 (.string ByteArray.empty) 1 16 Try.underlying55 hi hz0 hz1 hz2 rfl (by decide) (.slice none 0 0) 0 [] rfl (World.ownsRow_nil _ _ _ _) none 0 0 (lt.map strV) rfl ?a1 ?a2 (one_str _) ?a3 ?a4 (Nat.le_refl _) ?_))
    case a1 => rw [List.length_map, HLTL.out, HM0.out]
    try case a2 => exact .inl ⟨rfl, rfl, rfl⟩
    case a3 => unfold maxLen; omega
    case a4 => omega
    intro v5 w5 hown5 hgr5
    have hB5 : Below w4.heap.size w4 w5 := below_append' (e := 9) (size := 1) (Below.refl _ _) (Nat.le_refl _) (World.ownsRow_nil _ _ _ _) hgr5
    have hsv3e := hsv3d.below hB5 rfl
    have hz5 := hB5.size
    have hown5' : w5.ownsRow w4.heap.size 9 1 v5 m (lt.map strV) := by
      rw [HM0.out]; simpa using hown5
    clear hown5 hgr5 hsv3d
    obtain ⟨A3, C3, rfl, hsrc3⟩ : ∃ A3 C3, v3 = .slice A3 y.length C3 ∧ ((A3 = none ∧ y.length = 0 ∧ C3 = 0) ∨ ∃ ad, A3 = some ad ∧ ∀ (j : Nat) (u : Value), (y.map strV)[j]? = some u → w5.cell? (ad.add j) = some u) := by
      rcases hsv3e with ⟨rfl, rfl⟩ | ⟨_, g, c, rfl, _, _, _, _, h5⟩
      · exact ⟨none, 0, rfl, .inl ⟨rfl, rfl, rfl⟩⟩
      · exact ⟨_, c, rfl, .inr ⟨_, rfl, by have := SV.src y.length h5; rwa [List.take_length] at this⟩⟩
    have HSRC := Lib.hid hsrc3; clear hsrc3 hsv3e
    go_wp2_with (at_builtin; refine wpList_append_src rfl (.tmp 53) (.tmp 54) 55 rfl w4.heap.size 9 i0 (.string ByteArray.empty) 1 16 Try.underlying55 hi hz0 hz1 hz2 rfl (by decide) v5 m (lt.map strV) rfl hown5' A3 y.length C3 (y.map strV) rfl ?b1 HSRC.out (one_str _) ?b3 ?b4 hz5 ?_)
    case b1 => simp
    case b3 => unfold maxLen; omega
    case b4 => omega
    intro v6 w6 hown6 hgr6
    have hB6 : Below w4.heap.size w4 w6 := below_append' hB5 hz5 hown5' hgr6
    obtain ⟨a6, c6, rfl, hrd6⟩ := HFI.out v6 w6 hown6
    have hB16 := hB14.trans (hB6.mono hz14)
    clear hown6 hgr6 hown5' hB6 hB5
    have HRD := Lib.hid hrd6; clear hrd6
    go_wp2_with fail
    refine (put_n _ _ _ (lt ++ y) _ (by simp) HRD.out (by omega) (by omega)).mono ?_
    rintro e w7 ⟨rfl, hB7⟩
    have hB17 := hB16.trans (hB7.mono hB16.size)
    by_cases hlong : 255 < (put (lt ++ y)).length
    · have HGS := Lib.hid (HG.out.trans (if_pos hlong))
      have hlong' : (255 : Int) < ((⟨(put (lt ++ y)).toArray⟩ : ByteArray).size : Int) := by rw [mk_size]; omega
      clear hlong
      obtain ⟨P, hP⟩ : ∃ P : ByteArray, P = ⟨(put (lt ++ y)).toArray⟩ := ⟨_, rfl⟩
      rw [← hP] at hlong' ⊢
      have HPP := Lib.hid hP; clear hP
      go_wp2
      go_ret2
      exact ⟨ret_se HGS.out.symm, hB17⟩
    · have HGS := Lib.hid (HG.out.trans (if_neg hlong))
      have hlong' : ((⟨(put (lt ++ y)).toArray⟩ : ByteArray).size : Int) ≤ 255 := by rw [mk_size]; omega
      clear hlong
      have hrd7 := HRD.out.below hB7 rfl
      have HRD7 := Lib.hid hrd7; clear hrd7
      obtain ⟨P, hP⟩ : ∃ P : ByteArray, P = ⟨(put (lt ++ y)).toArray⟩ := ⟨_, rfl⟩
      rw [← hP] at hlong' ⊢
      have HPP := Lib.hid hP; clear hP
      go_wp2_with fail
      refine (put_n _ _ _ (lt ++ y) _ (by simp) HRD7.out (by omega) (by omega)).mono ?_
      rintro e w8 ⟨rfl, hB8⟩
      rw [← HPP.out]
      go_wp2
      go_ret2
      exact ⟨by rw [HPP.out]; exact ret_se HGS.out.symm, hB17.trans (hB8.mono hB17.size)⟩
  · have HS := Lib.hid (HLT.out ▸ SV.src m h5 : ∀ (j : Nat) (u : Value), (lt.map strV)[j]? = some u → w4.cell? ((⟨g, 0, none⟩ : Addr).add j) = some u); clear h5
    unfold maxLen at h2
    go_wp2_with (first | (at_builtin; refine wpList_append_src rfl (.tmp 44) (.tmp 51) 55 rfl w4.heap.size 9 i0 (.string ByteArray.empty) 1 16 Try.underlying55 hi hz0 hz1 hz2 rfl (by decide) (.slice none 0 0) 0 [] rfl (World.ownsRow_nil _ _ _ _) (some ⟨g, 0, none⟩) m c (lt.map strV) rfl ?d1 ?d2 (one_str _) ?d3 ?d4 (Nat.le_refl _) ?_))
    case d1 => rw [List.length_map, HLTL.out, Nat.mul_one]
    case d2 => exact .inr ⟨_, rfl, HS.out⟩
    case d3 => unfold maxLen; omega
    case d4 => omega
    intro v5 w5 hown5 hgr5
    have hB5 : Below w4.heap.size w4 w5 := below_append' (e := 9) (size := 1) (Below.refl _ _) (Nat.le_refl _) (World.ownsRow_nil _ _ _ _) hgr5
    have hsv3e := hsv3d.below hB5 rfl
    have hz5 := hB5.size
    have hown5' : w5.ownsRow w4.heap.size 9 1 v5 m (lt.map strV) := by simpa using hown5
    clear hown5 hgr5 hsv3d
    obtain ⟨A3, C3, rfl, hsrc3⟩ : ∃ A3 C3, v3 = .slice A3 y.length C3 ∧ ((A3 = none ∧ y.length = 0 ∧ C3 = 0) ∨ ∃ ad, A3 = some ad ∧ ∀ (j : Nat) (u : Value), (y.map strV)[j]? = some u → w5.cell? (ad.add j) = some u) := by
      rcases hsv3e with ⟨rfl, rfl⟩ | ⟨_, g, c, rfl, _, _, _, _, h5⟩
      · exact ⟨none, 0, rfl, .inl ⟨rfl, rfl, rfl⟩⟩
      · exact ⟨_, c, rfl, .inr ⟨_, rfl, by have := SV.src y.length h5; rwa [List.take_length] at this⟩⟩
    have HSRC := Lib.hid hsrc3; clear hsrc3 hsv3e
    go_wp2_with (at_builtin; refine wpList_append_src rfl (.tmp 53) (.tmp 54) 55 rfl w4.heap.size 9 i0 (.string ByteArray.empty) 1 16 Try.underlying55 hi hz0 hz1 hz2 rfl (by decide) v5 m (lt.map strV) rfl hown5' A3 y.length C3 (y.map strV) rfl ?e1 HSRC.out (one_str _) ?e3 ?e4 hz5 ?_)
    case e1 => simp
    case e3 => unfold maxLen; omega
    case e4 => omega
    intro v6 w6 hown6 hgr6
    have hB6 : Below w4.heap.size w4 w6 := below_append' hB5 hz5 hown5' hgr6
    obtain ⟨a6, c6, rfl, hrd6⟩ := HFI.out v6 w6 hown6
    have hB16 := hB14.trans (hB6.mono hz14)
    clear hown6 hgr6 hown5' hB6 hB5
    have HRD := Lib.hid hrd6; clear hrd6
    go_wp2_with fail
    refine (put_n _ _ _ (lt ++ y) _ (by simp) HRD.out (by omega) (by omega)).mono ?_
    rintro e w7 ⟨rfl, hB7⟩
    have hB17 := hB16.trans (hB7.mono hB16.size)
    by_cases hlong : 255 < (put (lt ++ y)).length
    · have HGS := Lib.hid (HG.out.trans (if_pos hlong))
      have hlong' : (255 : Int) < ((⟨(put (lt ++ y)).toArray⟩ : ByteArray).size : Int) := by rw [mk_size]; omega
      clear hlong
      obtain ⟨P, hP⟩ : ∃ P : ByteArray, P = ⟨(put (lt ++ y)).toArray⟩ := ⟨_, rfl⟩
      rw [← hP] at hlong' ⊢
      have HPP := Lib.hid hP; clear hP
      go_wp2
      go_ret2
      exact ⟨ret_se HGS.out.symm, hB17⟩
    · have HGS := Lib.hid (HG.out.trans (if_neg hlong))
      have hlong' : ((⟨(put (lt ++ y)).toArray⟩ : ByteArray).size : Int) ≤ 255 := by rw [mk_size]; omega
      clear hlong
      have hrd7 := HRD.out.below hB7 rfl
      have HRD7 := Lib.hid hrd7; clear hrd7
      obtain ⟨P, hP⟩ : ∃ P : ByteArray, P = ⟨(put (lt ++ y)).toArray⟩ := ⟨_, rfl⟩
      rw [← hP] at hlong' ⊢
      have HPP := Lib.hid hP; clear hP
      go_wp2_with fail
      refine (put_n _ _ _ (lt ++ y) _ (by simp) HRD7.out (by omega) (by omega)).mono ?_
      rintro e w8 ⟨rfl, hB8⟩
      rw [← HPP.out]
      go_wp2
      go_ret2
      exact ⟨by rw [HPP.out]; exact ret_se HGS.out.symm, hB17.trans (hB8.mono hB17.size)⟩


theorem split_gen (s : ByteArray) (w : World) (hs : s.size ≤ 1099511627776) :
    Calls Try.prog 52 #[.string s] w fun e w' => ∃ a n c, e = .returned (.tuple #[.slice a n c, .bool (isB s)]) ∧ Below w.heap.size w w' := by
  rcases isB_or s with ⟨ls, h⟩ | h
  · rw [isB_yes h]
    refine (split_yes s ls w h).mono ?_
    rintro e w' ⟨v, rfl, hsv, hB⟩
    obtain ⟨a, c, rfl, _⟩ := hsv.rd
    exact ⟨a, _, c, rfl, hB⟩
  · rw [isB_no h]
    exact split_no s w hs h
theorem graftS_bad {n f t : Bs} (h : ((split n).isSome && (split f).isSome && (split t).isSome) = false) : graftS n f t = ([], 1) := by
  unfold graftS
  cases hn : split n with
  | none => rfl
  | some l => cases hf : split f with
    | none => rfl
    | some x => cases ht : split t with
      | none => rfl
      | some y => rw [hn, hf, ht] at h; simp at h
set_option maxRecDepth 100000 in
set_option maxHeartbeats 1000000 in
theorem graft_any (n f t : ByteArray) (w : World) (hn : n.size ≤ 1099511627776) (hf : f.size ≤ 1099511627776) (ht : t.size ≤ 1099511627776) :
    Calls Try.prog 28 #[.string n, .string f, .string t] w fun e w' => e = .returned (.tuple #[.string ⟨(graftS n.data.toList f.data.toList t.data.toList).1.toArray⟩, .int .i64 (graftS n.data.toList f.data.toList t.data.toList).2]) ∧ Below w.heap.size w w' := by
  by_cases hall : (isB n && isB f && isB t) = true
  · rcases isB_or n with ⟨l, h1⟩ | h1
    · rcases isB_or f with ⟨x, h2⟩ | h2
      · rcases isB_or t with ⟨y, h3⟩ | h3
        · by_cases hw : withinS n.data.toList f.data.toList = true
          · exact graft_yes n f t l x y w h1 h2 h3 hw
          · have hw' : withinS n.data.toList f.data.toList = false := by simpa using hw
            have hg : graftS n.data.toList f.data.toList t.data.toList = ([], 5) := by
              unfold graftS; rw [split_iff.2 h1, split_iff.2 h2, split_iff.2 h3, hw']; rfl
            rw [hg]
            have e1 := Lib.hid (isB_yes h1); have e2 := Lib.hid (isB_yes h2); have e3 := Lib.hid (isB_yes h3)
            have HW := Lib.hid hw'
            clear h1 h2 h3 hw hw' hg hall
            go_enter Try.func28, Try.ntmps28
            go_wp2_with fail
            refine (split_gen n _ hn).mono ?_
            rintro e w1 ⟨a1, n1, c1, rfl, hB1⟩
            rw [e1.out]
            go_wp2_with fail
            refine (split_gen f _ hf).mono ?_
            rintro e w2 ⟨a2, n2, c2, rfl, hB2⟩
            have hB12 := hB1.trans (hB2.mono hB1.size)
            rw [e2.out]
            go_wp2_with fail
            refine (split_gen t _ ht).mono ?_
            rintro e w3 ⟨a3, n3, c3, rfl, hB3⟩
            have hB13 := hB12.trans (hB3.mono hB12.size)
            rw [e3.out]
            go_wp2_with fail
            refine (within_any n f _ hn hf).mono ?_
            rintro e w4 ⟨rfl, hB4⟩
            rw [HW.out]
            go_wp2
            go_ret2
            exact ⟨rfl, hB13.trans (hB4.mono hB13.size)⟩
        · rw [isB_no h3] at hall; simp at hall
      · rw [isB_no h2] at hall; simp at hall
    · rw [isB_no h1] at hall; simp at hall
  · have hall' : (isB n && isB f && isB t) = false := by simpa using hall
    rw [graftS_bad hall']
    obtain ⟨b1, h1⟩ : ∃ b, isB n = b := ⟨_, rfl⟩
    obtain ⟨b2, h2⟩ : ∃ b, isB f = b := ⟨_, rfl⟩
    obtain ⟨b3, h3⟩ : ∃ b, isB t = b := ⟨_, rfl⟩
    rw [h1, h2, h3] at hall'
    have e1 := Lib.hid h1; have e2 := Lib.hid h2; have e3 := Lib.hid h3
    clear h1 h2 h3 hall
    go_enter Try.func28, Try.ntmps28
    go_wp2_with fail
    refine (split_gen n _ hn).mono ?_
    rintro e w1 ⟨a1, n1, c1, rfl, hB1⟩
    rw [e1.out]
    go_wp2_with fail
    refine (split_gen f _ hf).mono ?_
    rintro e w2 ⟨a2, n2, c2, rfl, hB2⟩
    have hB12 := hB1.trans (hB2.mono hB1.size)
    rw [e2.out]
    go_wp2_with fail
    refine (split_gen t _ ht).mono ?_
    rintro e w3 ⟨a3, n3, c3, rfl, hB3⟩
    have hB13 := hB12.trans (hB3.mono hB12.size)
    rw [e3.out]
    cases b1
    · go_wp2
      go_ret2
      exact ⟨rfl, hB13⟩
    · cases b2
      · go_wp2
        go_ret2
        exact ⟨rfl, hB13⟩
      · cases b3
        · go_wp2
          go_ret2
          exact ⟨rfl, hB13⟩
        · simp at hall'
end Go.Proofs.Ytjflojefpaffeaa.refC
