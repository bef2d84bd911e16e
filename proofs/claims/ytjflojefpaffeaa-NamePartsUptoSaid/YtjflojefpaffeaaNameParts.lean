/- The law NameParts: its walk. -/
import Derived.Test.YtjflojefpaffeaaStar
import Derived.Test.YtjflojefpaffeaaNameC
namespace Go.Proofs.Ytjflojefpaffeaa.nparts
open Go.RowKit Go.Proofs.Ytjflojefpaffeaa.kit Go.Proofs.Ytjflojefpaffeaa.check Go.Proofs.Ytjflojefpaffeaa.nspec Go.Proofs.Ytjflojefpaffeaa.rsplit Go.Proofs.Ytjflojefpaffeaa.rput Go.Proofs.Ytjflojefpaffeaa.refA Go.Proofs.Ytjflojefpaffeaa.refB Go.Proofs.Ytjflojefpaffeaa.refC Go.Proofs.Ytjflojefpaffeaa.nameA Go.Proofs.Ytjflojefpaffeaa.nameB Go.Proofs.Ytjflojefpaffeaa.nameL Go.Proofs.Ytjflojefpaffeaa.rcmp Go.Proofs.Ytjflojefpaffeaa.join Go.Proofs.Ytjflojefpaffeaa.star

/-- a row that may be written -/
def Wr (w : World) (a : Option Addr) (lo hi n : Nat) : Prop := n = 0 ∨ ∃ g cur, a = some ⟨g, 0, none⟩ ∧ lo ≤ g ∧ g < hi ∧ w.heap[g]? = some (.cells cur 9 (0, 0)) ∧ n ≤ cur.size
theorem Wr.below {w w' : World} {a : Option Addr} {lo hi n : Nat} (h : Wr w a lo hi n) (hB : Below w.heap.size w w') : Wr w' a lo hi n := by
  refine h.imp id ?_
  rintro ⟨g, cur, h1, h2, h3, h4, h5⟩
  exact ⟨g, cur, h1, h2, h3, (hB.block g (Array.getElem?_eq_some_iff.1 h4).1).trans h4, h5⟩
theorem Wr.at_ {w : World} {a : Option Addr} {lo hi n j : Nat} (h : Wr w a lo hi n) (hj : j < n) : ∃ g, a = some ⟨g, 0, none⟩ ∧ lo ≤ g ∧ g < hi ∧ (∃ u, w.cell? ⟨g, j, none⟩ = some u) ∧ w.frozen? ⟨g, j, none⟩ = false := by
  rcases h with rfl | ⟨g, cur, h1, h2, h3, h4, h5⟩
  · omega
  · exact ⟨g, h1, h2, h3, ⟨cur[j]'(by omega), by rw [Lib.cell_of_heap h4]; exact Array.getElem?_eq_getElem _⟩, Lib.frozen_of_heap h4 j⟩
theorem Wr.set {w : World} {g : Nat} {lo hi n : Nat} (h : Wr w (some ⟨g, 0, none⟩) lo hi n) (j : Nat) (v : Value) : Wr (w.setCell ⟨g, j, none⟩ v) (some ⟨g, 0, none⟩) lo hi n := by
  refine h.imp id ?_
  rintro ⟨g', cur, h1, h2, h3, h4, h5⟩
  cases h1
  exact ⟨g, cur.set! j v, rfl, h2, h3, by simp [World.setCell, Array.getElem?_modify, h4], by simpa using h5⟩
theorem rd_set {w : World} {a : Option Addr} {base g : Nat} {ls : List Bs} (h : Rd w a base ls) (hg : g < base) (j : Nat) (v : Value) : Rd (w.setCell ⟨g, j, none⟩ v) a base ls := by
  intro i x hx
  obtain ⟨g', o, h1, h2, h3, h4⟩ := h i x hx
  refine ⟨g', o, h1, h2, by simpa using h3, ?_⟩
  rw [World.cell?_setCell_other _ _ _ _ (by intro e; injection e with e1 _; omega)]; exact h4
theorem row_rd {w : World} {base : Nat} {v : Value} {ls : List Bs} (h : w.ownsRow base 9 1 v ls.length (ls.map strV)) : ∃ a c, v = .slice a ls.length c ∧ ls.length ≤ c ∧ Rd w a 0 ls ∧ Wr w a base w.heap.size ls.length := by
  obtain ⟨a, c, h1, h2⟩ := Rd.of_own h
  rcases h.2 with ⟨rfl, h0⟩ | ⟨g, cap, cur, rfl, hb, hg, hn, _, hcs, htake⟩
  · injection h1 with e1 e2 e3
    exact ⟨a, c, by rw [← e1, ← e3, h0], by omega, h2.mono (Nat.zero_le _), .inl h0⟩
  · injection h1 with e1 e2 e3
    exact ⟨a, c, by rw [← e1, ← e3], by omega, h2.mono (Nat.zero_le _), .inr ⟨g, cur, e1.symm, hb, (Array.getElem?_eq_some_iff.1 hg).1, hg, by omega⟩⟩

theorem src_of {w : World} {a : Option Addr} {c m : Nat} {ls : List Bs} (hr : Rd w a 0 ls) (_hm : m = ls.length) (hn : a = none → m = 0 ∧ c = 0) :
    (a = none ∧ m = 0 ∧ c = 0) ∨ ∃ ad, a = some ad ∧ ∀ (j : Nat) (u : Value), (ls.map strV)[j]? = some u → w.cell? (ad.add j) = some u := by
  cases a with
  | none => exact .inl ⟨rfl, hn rfl⟩
  | some ad =>
    refine .inr ⟨ad, rfl, fun j u hu => ?_⟩
    rw [List.getElem?_map] at hu
    cases hx : ls[j]? with
    | none => rw [hx] at hu; simp at hu
    | some x =>
      rw [hx] at hu
      obtain ⟨g, o, h1, _, _, h4⟩ := hr j x hx
      cases h1
      have e : (⟨g, o, none⟩ : Addr).add j = ⟨g, o + j, none⟩ := by unfold Addr.add; split <;> simp_all
      rw [e, h4]; simpa using hu
theorem njoin_n (a : Option Addr) (c m : Nat) (ls : List Bs) (w : World) (hr : Rd w a 0 ls) (hm : m = ls.length) (hl : m ≤ 1048576) (hc : m ≤ c) :
    Calls Try.prog 55 #[.slice a m c] w fun e w' => e = RetJ (joinS ls) ∧ Below w.heap.size w w' := by
  subst hm; exact njoin_any a c ls w hr hl hc
theorem join_n (a : Option Addr) (c m : Nat) (ls : List Bs) (w : World) (hr : Rd w a 0 ls) (hm : m = ls.length) (hl : m ≤ 1048576) (hc : m ≤ c) :
    Calls Try.prog 56 #[.slice a m c] w fun e w' => e = RetJ (joinS ls) ∧ Below w.heap.size w w' := by
  subst hm; exact join_any a c ls w hr hl hc
theorem rd_pre {w : World} {a : Option Addr} {base : Nat} {x y : List Bs} (h : Rd w a base (x ++ y)) : Rd w a base x := by
  intro j p hp
  exact h j p (by rw [List.getElem?_append_left (List.getElem?_eq_some_iff.1 hp).1]; exact hp)

set_option maxRecDepth 100000 in
set_option maxHeartbeats 8000000 in
theorem walk_yes (n : ByteArray) (x : List Bs) (a : Option Addr) (m c : Nat) (ls : List Bs) (k : Int) (w : World) (h : IsN n.data.toList x) (hr : Rd w a 0 ls) (hm : m = ls.length) (hnil : a = none → m = 0 ∧ c = 0) (hmc : m ≤ c) (hl : m ≤ 1048576) :
    Calls Try.prog 15 #[.string n, .slice a m c, .int .i64 k] w fun e w' => e = .returned (.bool true) ∧ Below w.heap.size w w' := by
  have hn : n.size ≤ 255 := by have := h.2.2; rwa [size_len] at this
  have hxl := split_len h
  have L := Lib.hid h
  have HL : Hid (labS n.data.toList = x) := Lib.hid (by unfold labS; rw [split_iff.2 h])
  have HA := Lib.hid hr
  have HM := Lib.hid hm
  have HNIL := Lib.hid hnil
  obtain ⟨i0, hi, hz0, hz1, hz2⟩ := info_parts infoStr
  have HIS := Lib.hid (isB_yes h)
  clear h hr hm hnil
  go_enter Try.func15, Try.ntmps15
  go_wp2_with fail
  refine (nlabels_row n _ (by omega)).mono ?_
  rintro e w1 ⟨v1, rfl, ⟨hrow1, _⟩, hB1⟩
  rw [HL.out] at hrow1
  obtain ⟨a1, c1, rfl, hc1, hr1, hw1⟩ := row_rd hrow1
  have HR1 := Lib.hid hr1; have HW1 := Lib.hid hw1
  clear hrow1 hr1 hw1
  have hsz1 := hB1.size
  go_wp2_with fail
  refine (split_yes n x _ L.out).mono ?_
  rintro e w2 ⟨v2, rfl, hsv2, hB2⟩
  obtain ⟨a2, c2, rfl, hc2, hr2⟩ := sv_cap hsv2
  have HR2 := Lib.hid hr2
  clear hsv2 hr2
  have hC2 := hB1.trans (hB2.mono hB1.size)
  go_wp2_with fail
  refine (isName_any n _ (by omega)).mono ?_
  rintro e w3 ⟨rfl, hB3⟩
  rw [HIS.out]
  have hC3 := hC2.trans (hB3.mono hC2.size)
  go_wp2_with fail
  refine (same_any a1 a2 x.length x.length c1 c2 x x _ rfl rfl ((HR1.out.below hB2 rfl).below hB3 rfl) ((HR2.out.mono (Nat.zero_le _)).below hB3 rfl) (by omega) (by omega)).mono ?_
  rintro e w4 ⟨rfl, hB4⟩
  have hC4 := hC3.trans (hB4.mono hC3.size)
  rw [show decide (x = x) = true from by simp]
  have hR2 := (HR2.out.below hB3 rfl).below hB4 rfl
  have hW4 := ((HW1.out.below hB2).below hB3).below hB4
  have HR2' := Lib.hid hR2; have HW4 := Lib.hid hW4
  have hz4 := hC4.size
  clear hR2 hW4 HR1 HW1 HR2
  go_wp2
  go_loopg [33] (x.length + 1) (fun gas kv wr => ∃ (j : Nat), kv = .int .i64 j ∧ j ≤ x.length ∧ j + gas = x.length + 1 ∧ Hid (Rd wr a2 w1.heap.size x) ∧ Hid (Wr wr a1 w.heap.size w1.heap.size x.length) ∧ Below w.heap.size w wr)
  case atStart => exact ⟨0, rfl, by omega, by omega, HR2', HW4, hC4⟩
  case round =>
    clear HR2' HW4
    obtain ⟨j, rfl, hj, hjg, HRr, HWr, hBr⟩ := hrel
    have HJ := Lib.hid hjg; clear hjg
    by_cases hjt : j < x.length
    · obtain ⟨g, rfl, hg1, hg2, ⟨u, hu⟩, hfz⟩ := HWr.out.at_ hjt
      have HS := Lib.hid (HWr.out.set j (.string ⟨#[63]⟩))
      have HT := Lib.hid (rd_set HRr.out hg2 j (.string ⟨#[63]⟩))
      go_wp2
      have hjg := HJ.out
      go_roundg (gk - 1)
      case rel => exact ⟨j + 1, by go_num, by omega, by omega, HT, HS, hBr.setCell hg1 _⟩
      case measure => omega
    · have hzr := hBr.size
      go_wp2_with fail
      refine (nlabels_row n _ (by omega)).mono ?_
      rintro e w5 ⟨v5, rfl, ⟨hrow5, _⟩, hB5⟩
      rw [HL.out] at hrow5
      obtain ⟨a5, c5, rfl, hc5, hr5, _⟩ := row_rd hrow5
      have HR5 := Lib.hid hr5
      clear hrow5 hr5
      have hC5 := hBr.trans (hB5.mono hzr)
      go_wp2_with fail
      refine (same_any a5 a2 x.length x.length c5 c2 x x _ rfl rfl HR5.out ((HRr.out.mono (Nat.zero_le _)).below hB5 rfl) (by omega) (by omega)).mono ?_
      rintro e w6 ⟨rfl, hB6⟩
      have hC6 := hC5.trans (hB6.mono hC5.size)
      rw [show decide (x = x) = true from by simp]
      have HSR := Lib.hid (src_of (HA.out.below hC6 rfl) HM.out HNIL.out)
      have hz6 := hC6.size
      clear HRr HWr HR5 hB1 hB2 hB3 hB4 hB5 hB6 hBr hzr
      go_wp2_with (at_builtin; refine wpList_append_src rfl (.const (.slice none 0 0)) (.tmp 45) 55 rfl w6.heap.size 9 i0 (.string ByteArray.empty) 1 16 Try.underlying55 hi hz0 hz1 hz2 rfl (by decide) (.slice none 0 0) 0 [] rfl (World.ownsRow_nil _ _ _ _) a m c (ls.map strV) rfl ?d1 HSR.out (one_str _) ?d3 ?d4 (Nat.le_refl _) ?_)
      case d1 => rw [List.length_map, Nat.mul_one]; exact HM.out.symm
      case d3 => unfold maxLen; omega
      case d4 => omega
      intro v7 w7 hown7 hgr7
      have hB7 : Below w6.heap.size w6 w7 := below_append' (e := 9) (size := 1) (Below.refl _ _) (Nat.le_refl _) (World.ownsRow_nil _ _ _ _) hgr7
      have hown7' : w7.ownsRow w6.heap.size 9 1 v7 ls.length (ls.map strV) := by rw [← HM.out]; simpa using hown7
      obtain ⟨a7, c7, e7, hc7, hr7, _⟩ := row_rd hown7'
      rw [← HM.out] at e7 hc7
      subst e7
      have HR7 := Lib.hid hr7
      have hC7 := hC6.trans (hB7.mono hz6)
      clear hown7 hown7' hgr7 hr7
      have HSR2 := Lib.hid (src_of (HA.out.below hC7 rfl) HM.out HNIL.out)
      go_wp2_with (first | (at_builtin; refine wpList_append_src rfl (.const (.slice none 0 0)) (.tmp 47) 55 rfl w7.heap.size 9 i0 (.string ByteArray.empty) 1 16 Try.underlying55 hi hz0 hz1 hz2 rfl (by decide) (.slice none 0 0) 0 [] rfl (World.ownsRow_nil _ _ _ _) a m c (ls.map strV) rfl ?e1 HSR2.out (one_str _) ?e3 ?e4 (Nat.le_refl _) ?_))
      case e1 => rw [List.length_map, Nat.mul_one]; exact HM.out.symm
      case e3 => unfold maxLen; omega
      case e4 => omega
      intro v8 w8 hown8 hgr8
      have hB8 : Below w7.heap.size w7 w8 := below_append' (e := 9) (size := 1) (Below.refl _ _) (Nat.le_refl _) (World.ownsRow_nil _ _ _ _) hgr8
      have hown8' : w8.ownsRow w7.heap.size 9 1 v8 m (ls.map strV) := by simpa using hown8
      have hz8 := hB8.size
      clear hown8 hgr8
      go_wp2_with (at_builtin; refine wpList_append_own _ rfl (.tmp 48) (.tmp 49) 55 rfl w7.heap.size 9 i0 (.string ByteArray.empty) 1 16 Try.underlying55 hi hz0 hz1 hz2 rfl (by decide) _ m _ rfl (hown8'.alloc _) ⟨w8.heap.size, 0, none⟩ 2 2 [.string ⟨#[42]⟩, .string ⟨#[43]⟩] rfl rfl ?f1 ?f2 ?f3 ?f4 ?f5 ?_)
      case f1 =>
        intro j u hj
        have e : (⟨w8.heap.size, 0, none⟩ : Addr).add j = ⟨w8.heap.size, j, none⟩ := addr_add _ _
        rw [e, World.cell?_alloc_new]
        simpa using hj
      case f2 => intro u hu; simp at hu; rcases hu with rfl | rfl <;> rfl
      case f3 => unfold maxLen; omega
      case f4 => omega
      case f5 => simp; omega
      intro v9 w9 hown9 hgr9 _
      have hB9 : Below w7.heap.size w7 w9 := below_append hB8 hz8 hown8' hgr9
      have hlen : (ls ++ [[42], [43]] : List Bs).length = m + 2 := by rw [List.length_append, ← HM.out]; rfl
      have hown9' : w9.ownsRow w7.heap.size 9 1 v9 (ls ++ [[42], [43]] : List Bs).length ((ls ++ [[42], [43]] : List Bs).map strV) := by rw [hlen, List.map_append]; exact hown9
      obtain ⟨a9, c9, e9, hc9, hr9, _⟩ := row_rd hown9'
      rw [hlen] at e9 hc9
      obtain ⟨M, hM⟩ : ∃ M, m + 2 = M := ⟨_, rfl⟩
      rw [hM] at e9 hc9
      subst e9
      have hc41 : ∃ g o, a9 = some ⟨g, o, none⟩ ∧ g < w9.heap.size ∧ w9.cell? ⟨g, o + m, none⟩ = some (.string ⟨#[42]⟩) ∧ w9.cell? ⟨g, o + (m + 1), none⟩ = some (.string ⟨#[43]⟩) := by
        have h1 : (ls ++ [[42], [43]] : List Bs)[m]? = some [42] := by rw [HM.out, List.getElem?_append_right (Nat.le_refl _)]; simp
        have h2 : (ls ++ [[42], [43]] : List Bs)[m + 1]? = some [43] := by rw [HM.out, List.getElem?_append_right (by omega)]; simp
        obtain ⟨g, o, e1, _, e2, e3⟩ := hr9 m _ h1
        obtain ⟨g', o', e4, _, _, e6⟩ := hr9 (m + 1) _ h2
        rw [e1] at e4
        cases e4
        exact ⟨g, o, e1, e2, e3, e6⟩
      obtain ⟨g9, o9, rfl, hg9, hs1, hs2⟩ := hc41
      have HR9 := Lib.hid (rd_pre hr9)
      have hC9 := hC7.trans (hB9.mono hC7.size)
      have HR7b := Lib.hid (HR7.out.below hB9 rfl)
      clear hown9 hown9' hgr9 hr9 hown8' hlen HR7
      have hm9 : (m : Int) ≤ (c9 : Int) := by omega
      have hm0 : (0 : Int) ≤ (m : Int) := by omega
      have hmM : (m : Int) < (M : Int) := by omega
      have hmM1 : (m : Int) + 1 < (M : Int) := by omega
      have hm1 : (0 : Int) ≤ (m : Int) + 1 := by omega
      obtain ⟨J, HJJ⟩ : ∃ J, Hid (joinS ls = J) := ⟨_, Lib.hid rfl⟩
      obtain ⟨J1, J2⟩ := J
      obtain ⟨JS, HJS⟩ : ∃ JS : ByteArray, Hid (⟨J1.toArray⟩ = JS) := ⟨_, Lib.hid rfl⟩
      obtain ⟨C, HCC⟩ : ∃ C, Hid (countS n.data.toList = C) := ⟨_, Lib.hid rfl⟩
      obtain ⟨P, HPP⟩ : ∃ P, Hid ((⟨(parentS n.data.toList).toArray⟩ : ByteArray) = P) := ⟨_, Lib.hid rfl⟩
      obtain ⟨T, HTT⟩ : ∃ T, Hid ((⟨(tailS n.data.toList k).toArray⟩ : ByteArray) = T) := ⟨_, Lib.hid rfl⟩
      obtain ⟨S, HSS⟩ : ∃ S, Hid ((⟨(starS n.data.toList).toArray⟩ : ByteArray) = S) := ⟨_, Lib.hid rfl⟩
      obtain ⟨I, HII⟩ : ∃ I, Hid (isStarS n.data.toList = I) := ⟨_, Lib.hid rfl⟩
      go_wp2_with fail
      refine (njoin_n _ _ m ls _ HR9.out HM.out hl (by omega)).mono ?_
      rintro e w10 ⟨rfl, hB10⟩
      have hC10 := hC9.trans (hB10.mono hC9.size)
      rw [HJJ.out]
      unfold RetJ
      dsimp only
      rw [HJS.out]
      go_wp2_with fail
      refine (join_n _ _ m ls _ (HR7b.out.below hB10 rfl) HM.out hl (by omega)).mono ?_
      rintro e w11 ⟨rfl, hB11⟩
      have hC11 := hC10.trans (hB11.mono hC10.size)
      rw [HJJ.out]
      unfold RetJ
      dsimp only
      rw [HJS.out]
      go_wp2_with fail
      refine (same_any _ _ m m _ _ ls ls _ HM.out HM.out ((HR9.out.below hB10 rfl).below hB11 rfl) ((HR7b.out.below hB10 rfl).below hB11 rfl) (by omega) (by omega)).mono ?_
      rintro e w12 ⟨rfl, hB12⟩
      have hC12 := hC11.trans (hB12.mono hC11.size)
      rw [show decide (ls = ls) = true from by simp]
      have hB912 := (hB10.trans (hB11.mono hB10.size)).trans (hB12.mono (Nat.le_trans hB10.size hB11.size))
      have hs1' := (hB912.cell (p := ⟨g9, o9 + m, none⟩) hg9).trans hs1
      have hs2' := (hB912.cell (p := ⟨g9, o9 + (m + 1), none⟩) hg9).trans hs2
      clear hs1 hs2
      go_wp2_with fail
      refine (ncount_any n _ (by omega)).mono ?_
      rintro e w13 ⟨rfl, hB13⟩
      have hC13 := hC12.trans (hB13.mono hC12.size)
      clear hB13 hC12
      rw [HCC.out]
      go_wp2_with fail
      refine (count_any n _ (by omega)).mono ?_
      rintro e w14 ⟨rfl, hB14⟩
      have hC14 := hC13.trans (hB14.mono hC13.size)
      clear hB14 hC13
      rw [HCC.out]
      go_wp2_with fail
      refine (nparent_any n _ (by omega)).mono ?_
      rintro e w15 ⟨rfl, hB15⟩
      have hC15 := hC14.trans (hB15.mono hC14.size)
      clear hB15 hC14
      rw [HPP.out]
      go_wp2_with fail
      refine (parent_any n _ (by omega)).mono ?_
      rintro e w16 ⟨rfl, hB16⟩
      have hC16 := hC15.trans (hB16.mono hC15.size)
      clear hB16 hC15
      rw [HPP.out]
      go_wp2_with fail
      refine (ntail_any n k _ (by omega)).mono ?_
      rintro e w17 ⟨rfl, hB17⟩
      have hC17 := hC16.trans (hB17.mono hC16.size)
      clear hB17 hC16
      rw [HTT.out]
      go_wp2_with fail
      refine (tail_any n k _ (by omega)).mono ?_
      rintro e w18 ⟨rfl, hB18⟩
      have hC18 := hC17.trans (hB18.mono hC17.size)
      clear hB18 hC17
      rw [HTT.out]
      go_wp2_with fail
      refine (nstar_any n _ (by omega)).mono ?_
      rintro e w19 ⟨rfl, hB19⟩
      have hC19 := hC18.trans (hB19.mono hC18.size)
      clear hB19 hC18
      rw [HSS.out]
      go_wp2_with fail
      refine (star_any n _ (by omega)).mono ?_
      rintro e w20 ⟨rfl, hB20⟩
      have hC20 := hC19.trans (hB20.mono hC19.size)
      clear hB20 hC19
      rw [HSS.out]
      go_wp2_with fail
      refine (nisStar_any n _ (by omega)).mono ?_
      rintro e w21 ⟨rfl, hB21⟩
      have hC21 := hC20.trans (hB21.mono hC20.size)
      clear hB21 hC20
      rw [HII.out]
      go_wp2_with fail
      refine (isStar_any n _ (by omega)).mono ?_
      rintro e w22 ⟨rfl, hB22⟩
      have hC22 := hC21.trans (hB22.mono hC21.size)
      clear hB22 hC21
      rw [HII.out]
      go_wp2
      go_ret
      exact ⟨rfl, hC22⟩

set_option maxRecDepth 100000 in
set_option maxHeartbeats 8000000 in
theorem walk_no (n : ByteArray) (a : Option Addr) (m c : Nat) (ls : List Bs) (k : Int) (w : World) (h : split n.data.toList = none) (hn : n.size ≤ 1048576) (hr : Rd w a 0 ls) (hm : m = ls.length) (hnil : a = none → m = 0 ∧ c = 0) (hmc : m ≤ c) (hl : m ≤ 1048576) :
    Calls Try.prog 15 #[.string n, .slice a m c, .int .i64 k] w fun e w' => e = .returned (.bool true) ∧ Below w.heap.size w w' := by
  obtain ⟨x, hx⟩ : ∃ x, labS n.data.toList = x := ⟨_, rfl⟩
  have hx0 : x = [] := by rw [← hx]; unfold labS; rw [h]
  have hxl : x.length ≤ 254 := by rw [hx0]; simp
  have HX0 : 0 = x.length := by rw [hx0]; rfl
  have HXE := Lib.hid hx0
  have L := Lib.hid h
  have HL := Lib.hid hx
  have HX0' := Lib.hid HX0
  clear hx hx0 HX0
  have HA := Lib.hid hr
  have HM := Lib.hid hm
  have HNIL := Lib.hid hnil
  obtain ⟨i0, hi, hz0, hz1, hz2⟩ := info_parts infoStr
  have HIS := Lib.hid (isB_no h)
  clear h hr hm hnil
  go_enter Try.func15, Try.ntmps15
  go_wp2_with fail
  refine (nlabels_row n _ (by omega)).mono ?_
  rintro e w1 ⟨v1, rfl, ⟨hrow1, _⟩, hB1⟩
  rw [HL.out] at hrow1
  obtain ⟨a1, c1, rfl, hc1, hr1, hw1⟩ := row_rd hrow1
  have HR1 := Lib.hid hr1; have HW1 := Lib.hid hw1
  clear hrow1 hr1 hw1
  have hsz1 := hB1.size
  go_wp2_with fail
  refine (split_no n _ (by omega) L.out).mono ?_
  rintro e w2 ⟨a2, n2, c2, rfl, hB2⟩
  have HR2 : Hid (Rd w2 none w1.heap.size x) := Lib.hid (by rw [HXE.out]; exact Rd.nil _ _ _)
  have hC2 := hB1.trans (hB2.mono hB1.size)
  go_wp2_with fail
  refine (isName_any n _ (by omega)).mono ?_
  rintro e w3 ⟨rfl, hB3⟩
  rw [HIS.out]
  have hC3 := hC2.trans (hB3.mono hC2.size)
  go_wp2_with fail
  refine (same_any a1 none x.length 0 c1 0 x x _ rfl HX0'.out ((HR1.out.below hB2 rfl).below hB3 rfl) ((HR2.out.mono (Nat.zero_le _)).below hB3 rfl) (by omega) (by omega)).mono ?_
  rintro e w4 ⟨rfl, hB4⟩
  have hC4 := hC3.trans (hB4.mono hC3.size)
  rw [show decide (x = x) = true from by simp]
  have hR2 := (HR2.out.below hB3 rfl).below hB4 rfl
  have hW4 := ((HW1.out.below hB2).below hB3).below hB4
  have HR2' := Lib.hid hR2; have HW4 := Lib.hid hW4
  have hz4 := hC4.size
  clear hR2 hW4 HR1 HW1 HR2
  go_wp2
  go_loopg [33] (x.length + 1) (fun gas kv wr => ∃ (j : Nat), kv = .int .i64 j ∧ j ≤ x.length ∧ j + gas = x.length + 1 ∧ Hid (Rd wr none w1.heap.size x) ∧ Hid (Wr wr a1 w.heap.size w1.heap.size x.length) ∧ Below w.heap.size w wr)
  case atStart => exact ⟨0, rfl, by omega, by omega, HR2', HW4, hC4⟩
  case round =>
    clear HR2' HW4
    obtain ⟨j, rfl, hj, hjg, HRr, HWr, hBr⟩ := hrel
    have HJ := Lib.hid hjg; clear hjg
    by_cases hjt : j < x.length
    · obtain ⟨g, rfl, hg1, hg2, ⟨u, hu⟩, hfz⟩ := HWr.out.at_ hjt
      have HS := Lib.hid (HWr.out.set j (.string ⟨#[63]⟩))
      have HT := Lib.hid (rd_set HRr.out hg2 j (.string ⟨#[63]⟩))
      go_wp2
      have hjg := HJ.out
      go_roundg (gk - 1)
      case rel => exact ⟨j + 1, by go_num, by omega, by omega, HT, HS, hBr.setCell hg1 _⟩
      case measure => omega
    · have hzr := hBr.size
      go_wp2_with fail
      refine (nlabels_row n _ (by omega)).mono ?_
      rintro e w5 ⟨v5, rfl, ⟨hrow5, _⟩, hB5⟩
      rw [HL.out] at hrow5
      obtain ⟨a5, c5, rfl, hc5, hr5, _⟩ := row_rd hrow5
      have HR5 := Lib.hid hr5
      clear hrow5 hr5
      have hC5 := hBr.trans (hB5.mono hzr)
      go_wp2_with fail
      refine (same_any a5 none x.length 0 c5 0 x x _ rfl HX0'.out HR5.out ((HRr.out.mono (Nat.zero_le _)).below hB5 rfl) (by omega) (by omega)).mono ?_
      rintro e w6 ⟨rfl, hB6⟩
      have hC6 := hC5.trans (hB6.mono hC5.size)
      rw [show decide (x = x) = true from by simp]
      have HSR := Lib.hid (src_of (HA.out.below hC6 rfl) HM.out HNIL.out)
      have hz6 := hC6.size
      clear HRr HWr HR5 hB1 hB2 hB3 hB4 hB5 hB6 hBr hzr
      go_wp2_with (at_builtin; refine wpList_append_src rfl (.const (.slice none 0 0)) (.tmp 45) 55 rfl w6.heap.size 9 i0 (.string ByteArray.empty) 1 16 Try.underlying55 hi hz0 hz1 hz2 rfl (by decide) (.slice none 0 0) 0 [] rfl (World.ownsRow_nil _ _ _ _) a m c (ls.map strV) rfl ?d1 HSR.out (one_str _) ?d3 ?d4 (Nat.le_refl _) ?_)
      case d1 => rw [List.length_map, Nat.mul_one]; exact HM.out.symm
      case d3 => unfold maxLen; omega
      case d4 => omega
      intro v7 w7 hown7 hgr7
      have hB7 : Below w6.heap.size w6 w7 := below_append' (e := 9) (size := 1) (Below.refl _ _) (Nat.le_refl _) (World.ownsRow_nil _ _ _ _) hgr7
      have hown7' : w7.ownsRow w6.heap.size 9 1 v7 ls.length (ls.map strV) := by rw [← HM.out]; simpa using hown7
      obtain ⟨a7, c7, e7, hc7, hr7, _⟩ := row_rd hown7'
      rw [← HM.out] at e7 hc7
      subst e7
      have HR7 := Lib.hid hr7
      have hC7 := hC6.trans (hB7.mono hz6)
      clear hown7 hown7' hgr7 hr7
      have HSR2 := Lib.hid (src_of (HA.out.below hC7 rfl) HM.out HNIL.out)
      go_wp2_with (first | (at_builtin; refine wpList_append_src rfl (.const (.slice none 0 0)) (.tmp 47) 55 rfl w7.heap.size 9 i0 (.string ByteArray.empty) 1 16 Try.underlying55 hi hz0 hz1 hz2 rfl (by decide) (.slice none 0 0) 0 [] rfl (World.ownsRow_nil _ _ _ _) a m c (ls.map strV) rfl ?e1 HSR2.out (one_str _) ?e3 ?e4 (Nat.le_refl _) ?_))
      case e1 => rw [List.length_map, Nat.mul_one]; exact HM.out.symm
      case e3 => unfold maxLen; omega
      case e4 => omega
      intro v8 w8 hown8 hgr8
      have hB8 : Below w7.heap.size w7 w8 := below_append' (e := 9) (size := 1) (Below.refl _ _) (Nat.le_refl _) (World.ownsRow_nil _ _ _ _) hgr8
      have hown8' : w8.ownsRow w7.heap.size 9 1 v8 m (ls.map strV) := by simpa using hown8
      have hz8 := hB8.size
      clear hown8 hgr8
      go_wp2_with (at_builtin; refine wpList_append_own _ rfl (.tmp 48) (.tmp 49) 55 rfl w7.heap.size 9 i0 (.string ByteArray.empty) 1 16 Try.underlying55 hi hz0 hz1 hz2 rfl (by decide) _ m _ rfl (hown8'.alloc _) ⟨w8.heap.size, 0, none⟩ 2 2 [.string ⟨#[42]⟩, .string ⟨#[43]⟩] rfl rfl ?f1 ?f2 ?f3 ?f4 ?f5 ?_)
      case f1 =>
        intro j u hj
        have e : (⟨w8.heap.size, 0, none⟩ : Addr).add j = ⟨w8.heap.size, j, none⟩ := addr_add _ _
        rw [e, World.cell?_alloc_new]
        simpa using hj
      case f2 => intro u hu; simp at hu; rcases hu with rfl | rfl <;> rfl
      case f3 => unfold maxLen; omega
      case f4 => omega
      case f5 => simp; omega
      intro v9 w9 hown9 hgr9 _
      have hB9 : Below w7.heap.size w7 w9 := below_append hB8 hz8 hown8' hgr9
      have hlen : (ls ++ [[42], [43]] : List Bs).length = m + 2 := by rw [List.length_append, ← HM.out]; rfl
      have hown9' : w9.ownsRow w7.heap.size 9 1 v9 (ls ++ [[42], [43]] : List Bs).length ((ls ++ [[42], [43]] : List Bs).map strV) := by rw [hlen, List.map_append]; exact hown9
      obtain ⟨a9, c9, e9, hc9, hr9, _⟩ := row_rd hown9'
      rw [hlen] at e9 hc9
      obtain ⟨M, hM⟩ : ∃ M, m + 2 = M := ⟨_, rfl⟩
      rw [hM] at e9 hc9
      subst e9
      have hc41 : ∃ g o, a9 = some ⟨g, o, none⟩ ∧ g < w9.heap.size ∧ w9.cell? ⟨g, o + m, none⟩ = some (.string ⟨#[42]⟩) ∧ w9.cell? ⟨g, o + (m + 1), none⟩ = some (.string ⟨#[43]⟩) := by
        have h1 : (ls ++ [[42], [43]] : List Bs)[m]? = some [42] := by rw [HM.out, List.getElem?_append_right (Nat.le_refl _)]; simp
        have h2 : (ls ++ [[42], [43]] : List Bs)[m + 1]? = some [43] := by rw [HM.out, List.getElem?_append_right (by omega)]; simp
        obtain ⟨g, o, e1, _, e2, e3⟩ := hr9 m _ h1
        obtain ⟨g', o', e4, _, _, e6⟩ := hr9 (m + 1) _ h2
        rw [e1] at e4
        cases e4
        exact ⟨g, o, e1, e2, e3, e6⟩
      obtain ⟨g9, o9, rfl, hg9, hs1, hs2⟩ := hc41
      have HR9 := Lib.hid (rd_pre hr9)
      have hC9 := hC7.trans (hB9.mono hC7.size)
      have HR7b := Lib.hid (HR7.out.below hB9 rfl)
      clear hown9 hown9' hgr9 hr9 hown8' hlen HR7
      have hm9 : (m : Int) ≤ (c9 : Int) := by omega
      have hm0 : (0 : Int) ≤ (m : Int) := by omega
      have hmM : (m : Int) < (M : Int) := by omega
      have hmM1 : (m : Int) + 1 < (M : Int) := by omega
      have hm1 : (0 : Int) ≤ (m : Int) + 1 := by omega
      obtain ⟨J, HJJ⟩ : ∃ J, Hid (joinS ls = J) := ⟨_, Lib.hid rfl⟩
      obtain ⟨J1, J2⟩ := J
      obtain ⟨JS, HJS⟩ : ∃ JS : ByteArray, Hid (⟨J1.toArray⟩ = JS) := ⟨_, Lib.hid rfl⟩
      obtain ⟨C, HCC⟩ : ∃ C, Hid (countS n.data.toList = C) := ⟨_, Lib.hid rfl⟩
      obtain ⟨P, HPP⟩ : ∃ P, Hid ((⟨(parentS n.data.toList).toArray⟩ : ByteArray) = P) := ⟨_, Lib.hid rfl⟩
      obtain ⟨T, HTT⟩ : ∃ T, Hid ((⟨(tailS n.data.toList k).toArray⟩ : ByteArray) = T) := ⟨_, Lib.hid rfl⟩
      obtain ⟨S, HSS⟩ : ∃ S, Hid ((⟨(starS n.data.toList).toArray⟩ : ByteArray) = S) := ⟨_, Lib.hid rfl⟩
      obtain ⟨I, HII⟩ : ∃ I, Hid (isStarS n.data.toList = I) := ⟨_, Lib.hid rfl⟩
      go_wp2_with fail
      refine (njoin_n _ _ m ls _ HR9.out HM.out hl (by omega)).mono ?_
      rintro e w10 ⟨rfl, hB10⟩
      have hC10 := hC9.trans (hB10.mono hC9.size)
      rw [HJJ.out]
      unfold RetJ
      dsimp only
      rw [HJS.out]
      go_wp2_with fail
      refine (join_n _ _ m ls _ (HR7b.out.below hB10 rfl) HM.out hl (by omega)).mono ?_
      rintro e w11 ⟨rfl, hB11⟩
      have hC11 := hC10.trans (hB11.mono hC10.size)
      rw [HJJ.out]
      unfold RetJ
      dsimp only
      rw [HJS.out]
      go_wp2_with fail
      refine (same_any _ _ m m _ _ ls ls _ HM.out HM.out ((HR9.out.below hB10 rfl).below hB11 rfl) ((HR7b.out.below hB10 rfl).below hB11 rfl) (by omega) (by omega)).mono ?_
      rintro e w12 ⟨rfl, hB12⟩
      have hC12 := hC11.trans (hB12.mono hC11.size)
      rw [show decide (ls = ls) = true from by simp]
      have hB912 := (hB10.trans (hB11.mono hB10.size)).trans (hB12.mono (Nat.le_trans hB10.size hB11.size))
      have hs1' := (hB912.cell (p := ⟨g9, o9 + m, none⟩) hg9).trans hs1
      have hs2' := (hB912.cell (p := ⟨g9, o9 + (m + 1), none⟩) hg9).trans hs2
      clear hs1 hs2
      go_wp2_with fail
      refine (ncount_any n _ (by omega)).mono ?_
      rintro e w13 ⟨rfl, hB13⟩
      have hC13 := hC12.trans (hB13.mono hC12.size)
      clear hB13 hC12
      rw [HCC.out]
      go_wp2_with fail
      refine (count_any n _ (by omega)).mono ?_
      rintro e w14 ⟨rfl, hB14⟩
      have hC14 := hC13.trans (hB14.mono hC13.size)
      clear hB14 hC13
      rw [HCC.out]
      go_wp2_with fail
      refine (nparent_any n _ (by omega)).mono ?_
      rintro e w15 ⟨rfl, hB15⟩
      have hC15 := hC14.trans (hB15.mono hC14.size)
      clear hB15 hC14
      rw [HPP.out]
      go_wp2_with fail
      refine (parent_any n _ (by omega)).mono ?_
      rintro e w16 ⟨rfl, hB16⟩
      have hC16 := hC15.trans (hB16.mono hC15.size)
      clear hB16 hC15
      rw [HPP.out]
      go_wp2_with fail
      refine (ntail_any n k _ (by omega)).mono ?_
      rintro e w17 ⟨rfl, hB17⟩
      have hC17 := hC16.trans (hB17.mono hC16.size)
      clear hB17 hC16
      rw [HTT.out]
      go_wp2_with fail
      refine (tail_any n k _ (by omega)).mono ?_
      rintro e w18 ⟨rfl, hB18⟩
      have hC18 := hC17.trans (hB18.mono hC17.size)
      clear hB18 hC17
      rw [HTT.out]
      go_wp2_with fail
      refine (nstar_any n _ (by omega)).mono ?_
      rintro e w19 ⟨rfl, hB19⟩
      have hC19 := hC18.trans (hB19.mono hC18.size)
      clear hB19 hC18
      rw [HSS.out]
      go_wp2_with fail
      refine (star_any n _ (by omega)).mono ?_
      rintro e w20 ⟨rfl, hB20⟩
      have hC20 := hC19.trans (hB20.mono hC19.size)
      clear hB20 hC19
      rw [HSS.out]
      go_wp2_with fail
      refine (nisStar_any n _ (by omega)).mono ?_
      rintro e w21 ⟨rfl, hB21⟩
      have hC21 := hC20.trans (hB21.mono hC20.size)
      clear hB21 hC20
      rw [HII.out]
      go_wp2_with fail
      refine (isStar_any n _ (by omega)).mono ?_
      rintro e w22 ⟨rfl, hB22⟩
      have hC22 := hC21.trans (hB22.mono hC21.size)
      clear hB22 hC21
      rw [HII.out]
      go_wp2
      go_ret
      exact ⟨rfl, hC22⟩

theorem walk (n : ByteArray) (a : Option Addr) (m c : Nat) (ls : List Bs) (k : Int) (w : World) (hn : n.size ≤ 1048576) (hr : Rd w a 0 ls) (hm : m = ls.length) (hnil : a = none → m = 0 ∧ c = 0) (hmc : m ≤ c) (hl : m ≤ 1048576) (_hk : (Lit.int .i64 k).wf = true) :
    Calls Try.prog 15 #[.string n, .slice a m c, .int .i64 k] w fun e w' => e = .returned (.bool true) ∧ Below w.heap.size w w' := by
  rcases isB_or n with ⟨x, h⟩ | h
  · exact walk_yes n x a m c ls k w h hr hm hnil hmc hl
  · exact walk_no n a m c ls k w h hn hr hm hnil hmc hl
end Go.Proofs.Ytjflojefpaffeaa.nparts
