/- name.Compare: walk. -/
import Derived.Test.YtanoiiodnddkfaaGreatJ5
import Derived.Test.YtanoiiodnddkfaaGreatShelf
import Derived.Lib.Bytealg
import Derived.Deep.QuietTactic
import Derived.BigQuiet
import Derived.Deep.RegionHeld3
namespace Go.Proofs.YtanoiiodnddkfaaGreat.ncmp
open Go.RowKit Go.Proofs.YtanoiiodnddkfaaGreat.kit Go.Proofs.YtanoiiodnddkfaaGreat.check Go.Proofs.YtanoiiodnddkfaaGreat.nspec Go.Proofs.YtanoiiodnddkfaaGreat.rsplit Go.Proofs.YtanoiiodnddkfaaGreat.low Go.Proofs.YtanoiiodnddkfaaGreat.refA Go.Proofs.YtanoiiodnddkfaaGreat.nameA Go.Proofs.YtanoiiodnddkfaaGreat.nameB Go.Proofs.YtanoiiodnddkfaaGreat.nameL

/-- two rows of labels, the last one first -/
def cmpR : List Bs → List Bs → Int
  | [], [] => 0
  | [], _ :: _ => -1
  | _ :: _, [] => 1
  | p :: xs, q :: ys => if Lib.compareBytes p q = 0 then cmpR xs ys else Lib.compareBytes p q
def cmpS (a b : Bs) : Int := match split a, split b with | some x, some y => cmpR (x.map lowL).reverse (y.map lowL).reverse | _, _ => 0
theorem cmpS_yes {a b : Bs} {x y : List Bs} (ha : IsN a x) (hb : IsN b y) : cmpS a b = cmpR (x.map lowL).reverse (y.map lowL).reverse := by
  unfold cmpS; rw [split_iff.2 ha, split_iff.2 hb]
theorem cmpS_no1 {a b : Bs} (h : split a = none) : cmpS a b = 0 := by unfold cmpS; rw [h]
theorem cmpS_no2 {a b : Bs} (h : split b = none) : cmpS a b = 0 := by unfold cmpS; rw [h]; cases split a <;> rfl

theorem cmp_ge : ∀ a b : List UInt8, -1 ≤ Lib.compareBytes a b ∧ Lib.compareBytes a b ≤ 1
  | [], [] => by simp [Lib.compareBytes]
  | [], _ :: _ => by simp [Lib.compareBytes]
  | _ :: _, [] => by simp [Lib.compareBytes]
  | a :: u, b :: v => by
    simp only [Lib.compareBytes]
    split
    · omega
    · split
      · omega
      · exact cmp_ge u v
theorem rev_at {ls : List Bs} {k : Nat} {x : Bs} (h : ls[ls.length - k]? = some x) (h1 : 1 ≤ k) (h2 : k ≤ ls.length) : ls.reverse.drop (k - 1) = x :: ls.reverse.drop k := by
  have hk : k - 1 < ls.reverse.length := by simp; omega
  rw [List.drop_eq_getElem_cons hk]
  have e : k - 1 + 1 = k := by omega
  rw [e]
  congr 1
  obtain ⟨h3, h4⟩ := List.getElem?_eq_some_iff.1 h
  rw [List.getElem_reverse, ← h4]
  congr 1; omega
theorem cr_eq {xs ys xs' ys' : List Bs} {p q : Bs} {R : Int} (h : cmpR xs ys = R) (hx : xs = p :: xs') (hy : ys = q :: ys') (hc : Lib.compareBytes p q = 0) : cmpR xs' ys' = R := by
  subst hx; subst hy; rw [← h]; simp only [cmpR]; rw [if_pos hc]
theorem cr_ne {xs ys xs' ys' : List Bs} {p q : Bs} {R : Int} (h : cmpR xs ys = R) (hx : xs = p :: xs') (hy : ys = q :: ys') (hc : Lib.compareBytes p q ≠ 0) : Lib.compareBytes p q = R := by
  subst hx; subst hy; rw [← h]; simp only [cmpR]; rw [if_neg hc]
theorem cr_lt {xs ys : List Bs} {R : Int} (h : cmpR xs ys = R) (hx : xs = []) (hy : 0 < ys.length) : -1 = R := by
  subst hx; rw [← h]; cases ys with
  | nil => simp at hy
  | cons a b => rfl
theorem cr_gt {xs ys : List Bs} {R : Int} (h : cmpR xs ys = R) (hy : ys = []) (hx : 0 < xs.length) : 1 = R := by
  subst hy; rw [← h]; cases xs with
  | nil => simp at hx
  | cons a b => rfl
theorem cr_nil {xs ys : List Bs} {R : Int} (h : cmpR xs ys = R) (hy : ys = []) (hx : xs = []) : 0 = R := by
  subst hy; subst hx; rw [← h]; rfl

set_option maxRecDepth 100000 in
set_option maxHeartbeats 2000000 in
theorem ncmp_yes (s t : ByteArray) (x y : List Bs) (w : World) (h1 : IsN s.data.toList x) (h2 : IsN t.data.toList y) :
    Calls Tryz.prog 109 #[.string s, .string t] w fun e w' => e = .returned (.int .i64 (cmpS s.data.toList t.data.toList)) ∧ Below w.heap.size w w' := by
  obtain ⟨R, HR⟩ : ∃ R, Hid (R = cmpS s.data.toList t.data.toList) := ⟨_, Lib.hid rfl⟩
  have hs : s.size ≤ 255 := by have := h1.2.2; rwa [size_len] at this
  have ht : t.size ≤ 255 := by have := h2.2.2; rwa [size_len] at this
  have hlx := split_len h1
  have hly := split_len h2
  have e1 := Lib.hid (chk_yes h1); have e2 := Lib.hid (chk_yes h2)
  have l1 := Lib.hid (split_iff.2 (lab_low h1)); have l2 := Lib.hid (split_iff.2 (lab_low h2))
  obtain ⟨X, hX⟩ : ∃ X, X = x.map lowL := ⟨_, rfl⟩
  obtain ⟨Y, hY⟩ : ∃ Y, Y = y.map lowL := ⟨_, rfl⟩
  have hXl : X.length ≤ 254 := by rw [hX]; simpa using hlx
  have hYl : Y.length ≤ 254 := by rw [hY]; simpa using hly
  have HC : Hid (cmpR (X.reverse.drop 0) (Y.reverse.drop 0) = R) := Lib.hid (by rw [HR.out, cmpS_yes h1 h2, hX, hY]; simp)
  rw [← hX] at l1
  rw [← hY] at l2
  clear h1 h2 hX hY hlx hly
  go_enter Tryz.func109, Tryz.ntmps109
  go_wp2_with fail
  refine (lower_any s _ (by unfold maxLen; omega)).mono ?_
  rintro e w1 ⟨rfl, hB1⟩
  go_wp2_with fail
  refine (nlabels_any _ _ (by rw [mk_size]; simp [lowL]; omega)).mono ?_
  rintro e w2 ⟨v1, rfl, hsv1, hB2⟩
  have hB12 := hB1.trans (hB2.mono hB1.size)
  rw [mk_data] at hsv1
  unfold labS at hsv1
  rw [l1.out] at hsv1
  go_wp2_with fail
  refine (lower_any t _ (by unfold maxLen; omega)).mono ?_
  rintro e w3 ⟨rfl, hB3⟩
  have hB13 := hB12.trans (hB3.mono hB12.size)
  have hsv1b := hsv1.below hB3 rfl
  go_wp2_with fail
  refine (nlabels_any _ _ (by rw [mk_size]; simp [lowL]; omega)).mono ?_
  rintro e w4 ⟨v2, rfl, hsv2, hB4⟩
  have hB14 := hB13.trans (hB4.mono hB13.size)
  have hsv1c := hsv1b.below hB4 rfl
  rw [mk_data] at hsv2
  unfold labS at hsv2
  rw [l2.out] at hsv2
  clear hB1 hB2 hB3 hB4 hB12 hB13 hsv1 hsv1b
  go_wp2_with fail
  refine (check_any s _ (by omega)).mono ?_
  rintro e w5 ⟨rfl, hB5⟩
  rw [e1.out]
  have hB15 := hB14.trans (hB5.mono hB14.size)
  have hsv1d := hsv1c.below hB5 rfl
  have hsv2d := hsv2.below hB5 rfl
  go_wp2_with fail
  refine (check_any t _ (by omega)).mono ?_
  rintro e w6 ⟨rfl, hB6⟩
  rw [e2.out]
  have hB16 := hB15.trans (hB6.mono hB15.size)
  obtain ⟨a1, c1, rfl, hr1⟩ := (hsv1d.below hB6 rfl).rd
  obtain ⟨a2, c2, rfl, hr2⟩ := (hsv2d.below hB6 rfl).rd
  have HR1 := Lib.hid hr1; have HR2 := Lib.hid hr2
  clear hr1 hr2 hsv1c hsv2 hsv1d hsv2d hB5 hB6 hB14 hB15
  go_wp2
  go_loopg [7] (X.length + 1) (fun gas kv wr => ∃ (k : Nat), kv = .int .i64 k ∧ 1 ≤ k ∧ k ≤ X.length + 1 ∧ k ≤ Y.length + 1 ∧ k + gas = X.length + 2 ∧ Hid (cmpR (X.reverse.drop (k - 1)) (Y.reverse.drop (k - 1)) = R) ∧ Below w6.heap.size w6 wr)
  case atStart => exact ⟨1, rfl, by omega, by omega, by omega, by omega, HC, Below.refl _ _⟩
  case round =>
    obtain ⟨k, rfl, hk1, hk2, hk3, hkg, HW, hB⟩ := hrel
    have HK := Lib.hid hkg; clear hkg
    by_cases hxk : k ≤ X.length
    · by_cases hyk : k ≤ Y.length
      · obtain ⟨p, hp⟩ : ∃ p, X[X.length - k]? = some p := ⟨_, List.getElem?_eq_getElem (by omega)⟩
        obtain ⟨q, hq⟩ : ∃ q, Y[Y.length - k]? = some q := ⟨_, List.getElem?_eq_getElem (by omega)⟩
        obtain ⟨g1, o1, rfl, _, hg1, hcl1⟩ := HR1.out _ p hp
        obtain ⟨g2, o2, rfl, _, hg2, hcl2⟩ := HR2.out _ q hq
        have hcx := (hB.cell (p := ⟨g1, o1 + (X.length - k), none⟩) hg1).trans hcl1
        have hcy := (hB.cell (p := ⟨g2, o2 + (Y.length - k), none⟩) hg2).trans hcl2
        have HP := Lib.hid (rev_at hp hk1 hxk); have HQ := Lib.hid (rev_at hq hk1 hyk)
        clear hcl1 hcl2 hp hq
        obtain ⟨mx, hmx⟩ : ∃ mx, X.length - k = mx := ⟨_, rfl⟩
        obtain ⟨my, hmy⟩ : ∃ my, Y.length - k = my := ⟨_, rfl⟩
        rw [hmx] at hcx
        rw [hmy] at hcy
        have imx : (X.length : Int) - (k : Int) = (mx : Int) := by omega
        have imy : (Y.length : Int) - (k : Int) = (my : Int) := by omega
        have lmx : (mx : Int) < (X.length : Int) := by omega
        have lmy : (my : Int) < (Y.length : Int) := by omega
        have H5 := Lib.hid hmx; have H6 := Lib.hid hmy; clear hmx hmy
        unfold strV at hcx hcy
        have hcmp := cmp_ge p q
        obtain ⟨c, hc⟩ : ∃ c, Lib.compareBytes p q = c := ⟨_, rfl⟩
        have hct := fun w => Tryz.strings_Compare ⟨p.toArray⟩ ⟨q.toArray⟩ w
        rw [mk_data, mk_data, hc] at hct
        rw [hc] at hcmp
        have HCT := Lib.hid hct; have HCC := Lib.hid hc; clear hct hc
        obtain ⟨hcm1, hcm2⟩ := hcmp
        go_wp2_with fail
        go_quiet ((go_at_call 61; exact Calls.quiet_of_same (HCT.out _)))
        have hBn : Below w6.heap.size w6 (wr.drewN nq) := below_drewN hB nq
        by_cases hc0 : c = 0
        · have HN := Lib.hid (cr_eq HW.out HP.out HQ.out (HCC.out.trans hc0))
          subst hc0
          go_wp2
          have hkg := HK.out
          go_roundg (gk - 1)
          case rel => exact ⟨k + 1, by go_num, by omega, by omega, by omega, by omega, by rw [Nat.add_sub_cancel]; exact HN, hBn⟩
          case measure => omega
        · have HN := Lib.hid (cr_ne HW.out HP.out HQ.out (by rw [HCC.out]; exact hc0))
          have hc0' : (c == 0) = false := by simpa using hc0
          clear hc0
          go_wp2
          go_ret
          exact ⟨ret_int (by rw [← HR.out, ← HN.out, HCC.out]), hB16.trans (hBn.mono hB16.size)⟩
      · have HN := Lib.hid (cr_gt HW.out (List.drop_eq_nil_iff.2 (by simp; omega)) (by simp; omega))
        have h1 : ¬ (X.length : Int) < (Y.length : Int) := by omega
        have h2 : (Y.length : Int) < (X.length : Int) := by omega
        go_wp2
        go_ret
        exact ⟨ret_int (HN.out.trans HR.out), hB16.trans (hB.mono hB16.size)⟩
    · by_cases hyk : k ≤ Y.length
      · have HN := Lib.hid (cr_lt HW.out (List.drop_eq_nil_iff.2 (by simp; omega)) (by simp; omega))
        have h1 : (X.length : Int) < (Y.length : Int) := by omega
        go_wp2
        go_ret
        exact ⟨ret_int (HN.out.trans HR.out), hB16.trans (hB.mono hB16.size)⟩
      · have HN := Lib.hid (cr_nil HW.out (List.drop_eq_nil_iff.2 (by simp; omega)) (List.drop_eq_nil_iff.2 (by simp; omega)))
        have h1 : ¬ (X.length : Int) < (Y.length : Int) := by omega
        have h2 : ¬ (Y.length : Int) < (X.length : Int) := by omega
        go_wp2
        go_ret
        exact ⟨ret_int (HN.out.trans HR.out), hB16.trans (hB.mono hB16.size)⟩

set_option maxRecDepth 100000 in
set_option maxHeartbeats 1000000 in
theorem ncmp_no (s t : ByteArray) (w : World) (hs : s.size ≤ 1099511627776) (ht : t.size ≤ 1099511627776) (h : split s.data.toList = none ∨ split t.data.toList = none) :
    Calls Tryz.prog 109 #[.string s, .string t] w fun e w' => e = .returned (.int .i64 0) ∧ Below w.heap.size w w' := by
  have hcase : chkE s = 1 ∨ (chkE s = 0 ∧ chkE t = 1) := by
    rcases isB_or s with ⟨x, h1⟩ | h1
    · rcases h with h | h
      · rw [split_iff.2 h1] at h; simp at h
      · exact .inr ⟨chk_yes h1, chk_no h⟩
    · exact .inl (chk_no h1)
  have HH := Lib.hid hcase
  clear h hcase
  go_enter Tryz.func109, Tryz.ntmps109
  go_wp2_with fail
  refine (lower_any s _ (by unfold maxLen; omega)).mono ?_
  rintro e w1 ⟨rfl, hB1⟩
  go_wp2_with fail
  refine (nlabels_any _ _ (by rw [mk_size]; simp [lowL]; omega)).mono ?_
  rintro e w2 ⟨v1, rfl, hsv1, hB2⟩
  have hB12 := hB1.trans (hB2.mono hB1.size)
  obtain ⟨a1, c1, rfl, _⟩ := hsv1.rd
  go_wp2_with fail
  refine (lower_any t _ (by unfold maxLen; omega)).mono ?_
  rintro e w3 ⟨rfl, hB3⟩
  have hB13 := hB12.trans (hB3.mono hB12.size)
  go_wp2_with fail
  refine (nlabels_any _ _ (by rw [mk_size]; simp [lowL]; omega)).mono ?_
  rintro e w4 ⟨v2, rfl, hsv2, hB4⟩
  have hB14 := hB13.trans (hB4.mono hB13.size)
  obtain ⟨a2, c2, rfl, _⟩ := hsv2.rd
  go_wp2_with fail
  refine (check_any s _ (by omega)).mono ?_
  rintro e w5 ⟨rfl, hB5⟩
  have hB15 := hB14.trans (hB5.mono hB14.size)
  rcases HH.out with h1 | ⟨h1, h2⟩
  · rw [h1]
    clear h1
    go_wp2
    go_ret
    exact ⟨rfl, hB15⟩
  · rw [h1]
    have H2 := Lib.hid h2; clear h1 h2
    go_wp2_with fail
    refine (check_any t _ (by omega)).mono ?_
    rintro e w6 ⟨rfl, hB6⟩
    rw [H2.out]
    go_wp2
    go_ret
    exact ⟨rfl, hB15.trans (hB6.mono hB15.size)⟩
theorem ncmp_any (s t : ByteArray) (w : World) (hs : s.size ≤ 1099511627776) (ht : t.size ≤ 1099511627776) :
    Calls Tryz.prog 109 #[.string s, .string t] w fun e w' => e = .returned (.int .i64 (cmpS s.data.toList t.data.toList)) ∧ Below w.heap.size w w' := by
  rcases isB_or s with ⟨x, h1⟩ | h1
  · rcases isB_or t with ⟨y, h2⟩ | h2
    · exact ncmp_yes s t x y w h1 h2
    · rw [cmpS_no2 h2]; exact ncmp_no s t w hs ht (.inr h2)
  · rw [cmpS_no1 h1]; exact ncmp_no s t w hs ht (.inl h1)
end Go.Proofs.YtanoiiodnddkfaaGreat.ncmp
