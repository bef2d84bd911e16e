/- The reference's Compare: walk. proof.Covers, the reference's Covers; the law ProofCovers: its walk. -/
import Derived.Test.YtanoiiodnddkfaaGreatJ6
import Derived.Test.YtanoiiodnddkfaaGreatJ4
import Derived.Test.YtanoiiodnddkfaaGreatJ5
import Derived.Deep.DeepCutAuto
namespace Go.Proofs.YtanoiiodnddkfaaGreat.rcmp
open Go.RowKit Go.Proofs.YtanoiiodnddkfaaGreat.kit Go.Proofs.YtanoiiodnddkfaaGreat.check Go.Proofs.YtanoiiodnddkfaaGreat.nspec Go.Proofs.YtanoiiodnddkfaaGreat.rsplit Go.Proofs.YtanoiiodnddkfaaGreat.low Go.Proofs.YtanoiiodnddkfaaGreat.refA Go.Proofs.YtanoiiodnddkfaaGreat.nameL Go.Proofs.YtanoiiodnddkfaaGreat.ncmp Go.Proofs.YtanoiiodnddkfaaGreat.refC

theorem less_iff : ∀ (u v : List UInt8), Op.bytesLess u v = decide (Lib.compareBytes u v = -1)
  | [], [] => by simp [Op.bytesLess, Lib.compareBytes]
  | _ :: _, [] => by simp [Op.bytesLess, Lib.compareBytes]
  | [], _ :: _ => by simp [Op.bytesLess, Lib.compareBytes]
  | a :: x, b :: y => by
    rw [Op.bytesLess, less_iff x y, Lib.compareBytes]
    by_cases h1 : a < b
    · simp [h1]
    · by_cases h2 : b < a
      · have : a ≠ b := by rintro rfl; exact h1 h2
        simp [h1, h2, this]
      · have : a = b := by
          rw [UInt8.lt_iff_toNat_lt] at h1 h2
          exact UInt8.toNat.inj (by omega)
        simp [this]
theorem cmp_eq0 : ∀ (u v : List UInt8), Lib.compareBytes u v = 0 ↔ u = v
  | [], [] => by simp [Lib.compareBytes]
  | _ :: _, [] => by simp [Lib.compareBytes]
  | [], _ :: _ => by simp [Lib.compareBytes]
  | a :: x, b :: y => by
    rw [Lib.compareBytes]
    by_cases h1 : a < b
    · have : a ≠ b := by rintro rfl; rw [UInt8.lt_iff_toNat_lt] at h1; omega
      simp [h1, this]
    · by_cases h2 : b < a
      · have : a ≠ b := by rintro rfl; exact h1 h2
        simp [h1, h2, this]
      · have : a = b := by
          rw [UInt8.lt_iff_toNat_lt] at h1 h2
          exact UInt8.toNat.inj (by omega)
        simp [this, cmp_eq0 x y]
theorem cmp_cases (u v : List UInt8) : (Lib.compareBytes u v = -1 ∧ Op.bytesLess u v = true) ∨ (Lib.compareBytes u v = 0 ∧ Op.bytesLess u v = false ∧ (u == v) = true) ∨ (Lib.compareBytes u v = 1 ∧ Op.bytesLess u v = false ∧ (u == v) = false) := by
  have h := cmp_ge u v
  have h2 := cmp_eq0 u v
  rw [less_iff]
  by_cases h3 : Lib.compareBytes u v = -1
  · exact .inl ⟨h3, by simp [h3]⟩
  · by_cases h4 : Lib.compareBytes u v = 0
    · exact .inr (.inl ⟨h4, by simp [h4], by simpa using h2.1 h4⟩)
    · exact .inr (.inr ⟨by omega, by simp [h3], by simpa using fun h5 => h4 (h2.2 h5)⟩)

theorem sv_cap {w : World} {v : Value} {base : Nat} {ls : List Bs} (h : SV w v base ls) : ∃ a c, v = .slice a ls.length c ∧ ls.length ≤ c ∧ Rd w a base ls := by
  rcases h with ⟨rfl, h⟩ | ⟨h0, g, c, h1, h2, h3, h4, h5, h6⟩
  · exact ⟨none, 0, h, Nat.le_refl _, Rd.nil _ _ _⟩
  · exact ⟨_, c, h1, h2, fun j x hx => ⟨g, 0, rfl, h4, h5, by rw [Nat.zero_add]; exact h6 j x hx⟩⟩
theorem take_rev {ls : List Bs} {i : Nat} {x : Bs} (h : ls[i]? = some x) : ((ls.take (i + 1)).map lowL).reverse = lowL x :: ((ls.take i).map lowL).reverse := by
  obtain ⟨h3, h4⟩ := List.getElem?_eq_some_iff.1 h
  rw [List.take_add_one, List.getElem?_eq_getElem h3, h4]; simp

theorem keep3 {wr w w' : World} {p1 p2 : Addr} {v1 v2 : Value} (h : w.cell? p1 = some v1 ∧ w.cell? p2 = some v2 ∧ Below wr.heap.size wr w) (hB : Below w.heap.size w w') (h1 : p1.block < wr.heap.size) (h2 : p2.block < wr.heap.size) : w'.cell? p1 = some v1 ∧ w'.cell? p2 = some v2 ∧ Below wr.heap.size wr w' :=
  ⟨(hB.cell (p := p1) (Nat.lt_of_lt_of_le h1 h.2.2.size)).trans h.1, (hB.cell (p := p2) (Nat.lt_of_lt_of_le h2 h.2.2.size)).trans h.2.1, h.2.2.trans (hB.mono h.2.2.size)⟩

set_option maxRecDepth 100000 in
set_option maxHeartbeats 4000000 in
theorem compare_yes (s t : ByteArray) (x y : List Bs) (w : World) (h1 : IsN s.data.toList x) (h2 : IsN t.data.toList y) :
    Calls Tryz.prog 91 #[.string s, .string t] w fun e w' => e = .returned (.int .i64 (cmpS s.data.toList t.data.toList)) ∧ Below w.heap.size w w' := by
  obtain ⟨R, HR⟩ : ∃ R, Hid (R = cmpS s.data.toList t.data.toList) := ⟨_, Lib.hid rfl⟩
  have hs : s.size ≤ 255 := by have := h1.2.2; rwa [size_len] at this
  have ht : t.size ≤ 255 := by have := h2.2.2; rwa [size_len] at this
  have hlx := split_len h1
  have hly := split_len h2
  have HC : Hid (cmpR ((x.take x.length).map lowL).reverse ((y.take y.length).map lowL).reverse = R) := Lib.hid (by rw [HR.out, cmpS_yes h1 h2, List.take_length, List.take_length])
  have L1 := Lib.hid h1; have L2 := Lib.hid h2; clear h1 h2
  go_enter Tryz.func91, Tryz.ntmps91
  go_wp2_with fail
  refine (split_yes s x _ L1.out).mono ?_
  rintro e w1 ⟨v1, rfl, hsv1, hB1⟩
  go_wp2_with fail
  refine (split_yes t y _ L2.out).mono ?_
  rintro e w2 ⟨v2, rfl, hsv2, hB2⟩
  have hB12 := hB1.trans (hB2.mono hB1.size)
  obtain ⟨a1, c1, rfl, hk1, hr1⟩ := sv_cap (hsv1.below hB2 rfl)
  obtain ⟨a2, c2, rfl, hk2, hr2⟩ := sv_cap hsv2
  have HR1 := Lib.hid hr1; have HR2 := Lib.hid hr2
  clear hr1 hr2 hsv1 hsv2 hB1 hB2
  go_wp2
  go_loopg [5, 7] (x.length + 1) (fun gas xv yv wr => ∃ (i j : Nat) (d1 d2 : Nat), xv = .slice a1 i d1 ∧ yv = .slice a2 j d2 ∧ i ≤ d1 ∧ j ≤ d2 ∧ i ≤ x.length ∧ j ≤ y.length ∧ gas = i + 1 ∧ Hid (cmpR ((x.take i).map lowL).reverse ((y.take j).map lowL).reverse = R) ∧ Below w2.heap.size w2 wr)
  case atStart => exact ⟨x.length, y.length, c1, c2, rfl, rfl, hk1, hk2, by omega, by omega, rfl, HC, Below.refl _ _⟩
  case round =>
    obtain ⟨i, j, d1, d2, rfl, rfl, hd1, hd2, hi, hj, hkg, HW, hB⟩ := hrel
    by_cases hi0 : i = 0
    · subst hi0
      by_cases hj0 : j = 0
      · subst hj0
        have HN := Lib.hid (cr_nil HW.out (by simp) (by simp))
        go_wp2
        go_ret
        exact ⟨ret_int (HN.out.trans HR.out), hB12.trans (hB.mono hB12.size)⟩
      · have HN := Lib.hid (cr_lt HW.out (by simp) (by simp; omega))
        have hj0' : ((j : Int) == 0) = false := by simpa using hj0
        clear hj0
        go_wp2
        go_ret
        exact ⟨ret_int (HN.out.trans HR.out), hB12.trans (hB.mono hB12.size)⟩
    · have hi0' : ((i : Int) == 0) = false := by simpa using hi0
      by_cases hj0 : j = 0
      · subst hj0
        have HN := Lib.hid (cr_gt HW.out (by simp) (by simp; omega))
        clear hi0
        go_wp2
        go_ret
        exact ⟨ret_int (HN.out.trans HR.out), hB12.trans (hB.mono hB12.size)⟩
      · have hj0' : ((j : Int) == 0) = false := by simpa using hj0
        obtain ⟨m, hm⟩ : ∃ m, i = m + 1 := ⟨i - 1, by omega⟩
        obtain ⟨n, hn⟩ : ∃ n, j = n + 1 := ⟨j - 1, by omega⟩
        clear hi0 hj0
        have HW2 : Hid (cmpR ((x.take (m + 1)).map lowL).reverse ((y.take (n + 1)).map lowL).reverse = R) := by rw [← hm, ← hn]; exact HW
        obtain ⟨p, hp⟩ : ∃ p, x[m]? = some p := ⟨_, List.getElem?_eq_getElem (by omega)⟩
        obtain ⟨q, hq⟩ : ∃ q, y[n]? = some q := ⟨_, List.getElem?_eq_getElem (by omega)⟩
        obtain ⟨g1, o1, rfl, _, hg1, hcl1⟩ := HR1.out _ p hp
        obtain ⟨g2, o2, rfl, _, hg2, hcl2⟩ := HR2.out _ q hq
        have hcx := (hB.cell (p := ⟨g1, o1 + m, none⟩) hg1).trans hcl1
        have hcy := (hB.cell (p := ⟨g2, o2 + n, none⟩) hg2).trans hcl2
        have HP := Lib.hid (take_rev hp); have HQ := Lib.hid (take_rev hq)
        have hpl := L1.out.2.1 p (List.mem_of_getElem? hp)
        have hql := L2.out.2.1 q (List.mem_of_getElem? hq)
        have lp := low_any ⟨p.toArray⟩
        have lq := low_any ⟨q.toArray⟩
        rw [mk_data, mk_size] at lp lq
        have LP := fun w => Lib.hid (lp w (by unfold maxLen; omega))
        have LQ := fun w => Lib.hid (lq w (by unfold maxLen; omega))
        have hg1' := Nat.lt_of_lt_of_le hg1 hB.size
        have hg2' := Nat.lt_of_lt_of_le hg2 hB.size
        clear hcl1 hcl2 hp hq hpl hql lp lq hg1 hg2
        have imx : (i : Int) - 1 = (m : Int) := by omega
        have imy : (j : Int) - 1 = (n : Int) := by omega
        have lmx : (m : Int) < (i : Int) := by omega
        have lmy : (n : Int) < (j : Int) := by omega
        have lnx : m ≤ d1 := by omega
        have wx1 : IntKind.i64.wrap (m : Int) = (m : Int) := IntWalk.i64_in _ (by omega)
        have wy1 : IntKind.i64.wrap (n : Int) = (n : Int) := IntWalk.i64_in _ (by omega)
        have zx : (0 : Int) ≤ (m : Int) := by omega
        have zy : (0 : Int) ≤ (n : Int) := by omega
        have lny : n ≤ d2 := by omega
        have H5 := Lib.hid hm; have H6 := Lib.hid hn; clear hm hn HW
        unfold strV at hcx hcy
        go_upto_region 11 with (fail)
        go_cut [9, 10] (fun s9 s10 wx => s9 = .string ⟨(lowL p).toArray⟩ ∧ s10 = .string ⟨(lowL q).toArray⟩ ∧ Below wr.heap.size wr wx)
        case first =>
          have hBd : Below wr.heap.size wr wr.drew := below_drewN (Below.refl _ _) 1
          go_region_held3 (fun w' => w'.cell? ⟨g1, o1 + m, none⟩ = some (.string ⟨p.toArray⟩) ∧ w'.cell? ⟨g2, o2 + n, none⟩ = some (.string ⟨q.toArray⟩) ∧ Below wr.heap.size wr w') (first | assumption | (refine ⟨?_, ?_, ?_⟩ <;> assumption))
            (first
              | (go_at_call_of 101 (Value.string ⟨p.toArray⟩); refine (LP _).out.mono ?_; rintro e w' ⟨rfl, hBz⟩; have hBz2 := keep3 (by assumption) hBz hg1' hg2'; clear hBz)
              | (go_at_call_of 101 (Value.string ⟨q.toArray⟩); refine (LQ _).out.mono ?_; rintro e w' ⟨rfl, hBz⟩; have hBz2 := keep3 (by assumption) hBz hg1' hg2'; clear hBz))
          all_goals (go_wp2_with fail; go_meet; exact ⟨rfl, rfl, (‹_ ∧ _ ∧ Below _ _ _›).2.2⟩)
        case rest =>
          obtain ⟨rfl, rfl, hBx⟩ := hcut
          have hBy := hB.trans (hBx.mono hB.size)
          have hcc := cmp_cases (lowL p) (lowL q)
          have e1 : lowL p = (⟨(lowL p).toArray⟩ : ByteArray).toList := by rw [Lib.toList_data]
          have e2 : lowL q = (⟨(lowL q).toArray⟩ : ByteArray).toList := by rw [Lib.toList_data]
          have hcd : ∀ c : Int, (Lib.compareBytes (⟨(lowL p).toArray⟩ : ByteArray).toList (⟨(lowL q).toArray⟩ : ByteArray).toList = c) → Lib.compareBytes (lowL p) (lowL q) = c := fun c h => by rw [e1, e2]; exact h
          rw [e1, e2] at hcc
          have HCD := Lib.hid hcd
          clear hcd e1 e2
          generalize (⟨(lowL p).toArray⟩ : ByteArray) = PP at *
          generalize (⟨(lowL q).toArray⟩ : ByteArray) = QQ at *
          rcases hcc with ⟨hc1, hc2⟩ | ⟨hc1, hc2, hc3⟩ | ⟨hc1, hc2, hc3⟩
          · have HC1 := Lib.hid (HCD.out _ hc1)
            clear hc1
            have HN := Lib.hid (cr_ne HW2.out HP.out HQ.out (by rw [HC1.out]; omega))
            go_wp2
            go_ret
            exact ⟨ret_int (by rw [← HR.out, ← HN.out, HC1.out]), hB12.trans (hBy.mono hB12.size)⟩
          · have HC1 := Lib.hid (HCD.out _ hc1)
            clear hc1
            have HN := Lib.hid (cr_eq HW2.out HP.out HQ.out HC1.out)
            go_wp2_with fail
            go_quiet (fail)
            have hBn : Below w2.heap.size w2 (wc.drewN nq) := below_drewN hBy nq
            go_wp2
            have hm := H5.out
            have hn := H6.out
            go_roundg (gk - 1)
            case rel => exact ⟨m, n, d1, d2, rfl, rfl, by omega, by omega, by omega, by omega, by omega, HN, hBn⟩
            case measure => omega
          · have HC1 := Lib.hid (HCD.out _ hc1)
            clear hc1
            have HN := Lib.hid (cr_ne HW2.out HP.out HQ.out (by rw [HC1.out]; omega))
            go_wp2
            go_ret
            exact ⟨ret_int (by rw [← HR.out, ← HN.out, HC1.out]), hB12.trans (hBy.mono hB12.size)⟩

set_option maxRecDepth 100000 in
set_option maxHeartbeats 1000000 in
theorem compare_no (s t : ByteArray) (w : World) (hs : s.size ≤ 1099511627776) (ht : t.size ≤ 1099511627776) (h : split s.data.toList = none ∨ split t.data.toList = none) :
    Calls Tryz.prog 91 #[.string s, .string t] w fun e w' => e = .returned (.int .i64 0) ∧ Below w.heap.size w w' := by
  have hcase : isB s = false ∨ (isB s = true ∧ isB t = false) := by
    rcases isB_or s with ⟨x, h1⟩ | h1
    · rcases h with h | h
      · rw [split_iff.2 h1] at h; simp at h
      · exact .inr ⟨isB_yes h1, isB_no h⟩
    · exact .inl (isB_no h1)
  have HH := Lib.hid hcase
  clear h hcase
  go_enter Tryz.func91, Tryz.ntmps91
  go_wp2_with fail
  refine (split_gen s _ hs).mono ?_
  rintro e w1 ⟨a1, n1, c1, rfl, hB1⟩
  go_wp2_with fail
  refine (split_gen t _ ht).mono ?_
  rintro e w2 ⟨a2, n2, c2, rfl, hB2⟩
  have hB12 := hB1.trans (hB2.mono hB1.size)
  rcases HH.out with h1 | ⟨h1, h2⟩
  · rw [h1]
    clear h1
    obtain ⟨b, hb⟩ : ∃ b, isB t = b := ⟨_, rfl⟩
    rw [hb]
    cases b
    all_goals clear hb
    · go_wp2
      go_ret
      exact ⟨rfl, hB12⟩
    · go_wp2
      go_ret
      exact ⟨rfl, hB12⟩
  · rw [h1, h2]
    clear h1 h2
    go_wp2
    go_ret
    exact ⟨rfl, hB12⟩
theorem compare_any (s t : ByteArray) (w : World) (hs : s.size ≤ 1099511627776) (ht : t.size ≤ 1099511627776) :
    Calls Tryz.prog 91 #[.string s, .string t] w fun e w' => e = .returned (.int .i64 (cmpS s.data.toList t.data.toList)) ∧ Below w.heap.size w w' := by
  rcases isB_or s with ⟨x, h1⟩ | h1
  · rcases isB_or t with ⟨y, h2⟩ | h2
    · exact compare_yes s t x y w h1 h2
    · rw [cmpS_no2 h2]; exact compare_no s t w hs ht (.inr h2)
  · rw [cmpS_no1 h1]; exact compare_no s t w hs ht (.inl h1)
end Go.Proofs.YtanoiiodnddkfaaGreat.rcmp
namespace Go.Proofs.YtanoiiodnddkfaaGreat.cov
open Go.RowKit Go.Proofs.YtanoiiodnddkfaaGreat.kit Go.Proofs.YtanoiiodnddkfaaGreat.check Go.Proofs.YtanoiiodnddkfaaGreat.nspec Go.Proofs.YtanoiiodnddkfaaGreat.rsplit Go.Proofs.YtanoiiodnddkfaaGreat.low Go.Proofs.YtanoiiodnddkfaaGreat.refA Go.Proofs.YtanoiiodnddkfaaGreat.refB Go.Proofs.YtanoiiodnddkfaaGreat.nameA Go.Proofs.YtanoiiodnddkfaaGreat.nameB Go.Proofs.YtanoiiodnddkfaaGreat.nameC Go.Proofs.YtanoiiodnddkfaaGreat.ncmp Go.Proofs.YtanoiiodnddkfaaGreat.rcmp

def ltS (a b : Bs) : Bool := decide (cmpS a b < 0)
def betS (a b x : Bs) : Bool := if ltS a b then ltS a x && ltS x b else ltS a x || ltS x b
def covS (a b x : Bs) : Bool := (split a).isSome && (split b).isSome && (split x).isSome && betS a b x
theorem lt_cases (c : Int) : (c < 0 ∧ decide (c < 0) = true) ∨ (¬ c < 0 ∧ decide (c < 0) = false) := by
  by_cases h : c < 0
  · exact .inl ⟨h, by simpa using h⟩
  · exact .inr ⟨h, by simpa using h⟩

set_option maxRecDepth 100000 in
set_option maxHeartbeats 1000000 in
theorem between_any (a b x : ByteArray) (w : World) (ha : a.size ≤ 1048576) (hb : b.size ≤ 1048576) (hx : x.size ≤ 1048576) :
    Calls Tryz.prog 59 #[.string a, .string b, .string x, .func (.func 109) #[] #[]] w fun e w' => e = .returned (.bool (betS a.data.toList b.data.toList x.data.toList)) ∧ Below w.heap.size w w' := by
  obtain ⟨ab, HAB⟩ : ∃ c, Hid (cmpS a.data.toList b.data.toList = c) := ⟨_, Lib.hid rfl⟩
  obtain ⟨ax, HAX⟩ : ∃ c, Hid (cmpS a.data.toList x.data.toList = c) := ⟨_, Lib.hid rfl⟩
  obtain ⟨xb, HXB⟩ : ∃ c, Hid (cmpS x.data.toList b.data.toList = c) := ⟨_, Lib.hid rfl⟩
  obtain ⟨R, HR⟩ : ∃ R, Hid ((if decide (ab < 0) then decide (ax < 0) && decide (xb < 0) else decide (ax < 0) || decide (xb < 0)) = R) := ⟨_, Lib.hid rfl⟩
  have e : betS a.data.toList b.data.toList x.data.toList = R := by unfold betS ltS; rw [HAB.out, HAX.out, HXB.out]; exact HR.out
  rw [e]
  clear e
  go_enter Tryz.func59, Tryz.ntmps59
  go_wp2_with fail
  refine (ncmp_any a b _ (by omega) (by omega)).mono ?_
  rintro e w1 ⟨rfl, hB1⟩
  rw [HAB.out]
  have hC1 := hB1
  rcases lt_cases ab with ⟨p1, d1⟩ | ⟨p1, d1⟩
  · have D1 := Lib.hid d1
    go_wp2_with fail
    refine (ncmp_any a x _ (by omega) (by omega)).mono ?_
    rintro e w2 ⟨rfl, hB2⟩
    rw [HAX.out]
    have hC2 := hC1.trans (hB2.mono hC1.size)
    rcases lt_cases ax with ⟨p2, d2⟩ | ⟨p2, d2⟩
    · have D2 := Lib.hid d2
      go_wp2_with fail
      refine (ncmp_any x b _ (by omega) (by omega)).mono ?_
      rintro e w3 ⟨rfl, hB3⟩
      rw [HXB.out]
      have hC3 := hC2.trans (hB3.mono hC2.size)
      rcases lt_cases xb with ⟨p3, d3⟩ | ⟨p3, d3⟩
      · have D3 := Lib.hid d3
        go_wp2
        go_ret
        exact ⟨ret_bool (by rw [← HR.out]; simp [D1.out, D2.out, D3.out]), hC3⟩
      · have D3 := Lib.hid d3
        go_wp2
        go_ret
        exact ⟨ret_bool (by rw [← HR.out]; simp [D1.out, D2.out, D3.out]), hC3⟩
    · have D2 := Lib.hid d2
      go_wp2
      go_ret
      exact ⟨ret_bool (by rw [← HR.out]; simp [D1.out, D2.out]), hC2⟩
  · have D1 := Lib.hid d1
    go_wp2_with fail
    refine (ncmp_any a x _ (by omega) (by omega)).mono ?_
    rintro e w2 ⟨rfl, hB2⟩
    rw [HAX.out]
    have hC2 := hC1.trans (hB2.mono hC1.size)
    rcases lt_cases ax with ⟨p2, d2⟩ | ⟨p2, d2⟩
    · have D2 := Lib.hid d2
      go_wp2
      go_ret
      exact ⟨ret_bool (by rw [← HR.out]; simp [D1.out, D2.out]), hC2⟩
    · have D2 := Lib.hid d2
      go_wp2_with fail
      refine (ncmp_any x b _ (by omega) (by omega)).mono ?_
      rintro e w3 ⟨rfl, hB3⟩
      rw [HXB.out]
      have hC3 := hC2.trans (hB3.mono hC2.size)
      rcases lt_cases xb with ⟨p3, d3⟩ | ⟨p3, d3⟩
      · have D3 := Lib.hid d3
        go_wp2
        go_ret
        exact ⟨ret_bool (by rw [← HR.out]; simp [D1.out, D2.out, D3.out]), hC3⟩
      · have D3 := Lib.hid d3
        go_wp2
        go_ret
        exact ⟨ret_bool (by rw [← HR.out]; simp [D1.out, D2.out, D3.out]), hC3⟩

theorem hu3 : Tryz.prog.underlying 129 = some (.array 3 9) := by kernel_rfl
theorem idx0 (a b x : ByteArray) (w : World) : Sem.run Tryz.prog (Instr.index 129 (Value.agg #[Value.string a, Value.string b, Value.string x]) (Value.int IntKind.i64 0)) w = .ok (.string a) w := by
  simp [Instr.index, asIntOf, run_underlying hu3, go_sem]
theorem idx1 (a b x : ByteArray) (w : World) : Sem.run Tryz.prog (Instr.index 129 (Value.agg #[Value.string a, Value.string b, Value.string x]) (Value.int IntKind.i64 1)) w = .ok (.string b) w := by
  simp [Instr.index, asIntOf, run_underlying hu3, go_sem]
theorem idx2 (a b x : ByteArray) (w : World) : Sem.run Tryz.prog (Instr.index 129 (Value.agg #[Value.string a, Value.string b, Value.string x]) (Value.int IntKind.i64 2)) w = .ok (.string x) w := by
  simp [Instr.index, asIntOf, run_underlying hu3, go_sem]

set_option maxRecDepth 100000 in
set_option maxHeartbeats 1000000 in
theorem ncovers_any (a b x : ByteArray) (w : World) (ha : a.size ≤ 1048576) (hb : b.size ≤ 1048576) (hx : x.size ≤ 1048576) :
    Calls Tryz.prog 88 #[.string a, .string b, .string x] w fun e w' => e = .returned (.bool (covS a.data.toList b.data.toList x.data.toList)) ∧ Below w.heap.size w w' := by
  go_enter Tryz.func88, Tryz.ntmps88
  go_wp2
  go_loopg [13] (4) (fun gas kv wr => ∃ k : Nat, kv = .int .i64 k ∧ k ≤ 3 ∧ k + gas = 4 ∧ (1 ≤ k → Hid ((split a.data.toList).isSome = true)) ∧ (2 ≤ k → Hid ((split b.data.toList).isSome = true)) ∧ (3 ≤ k → Hid ((split x.data.toList).isSome = true)) ∧ Below w.heap.size w wr)
  case atStart => exact ⟨0, rfl, by omega, by omega, fun h => absurd h (by omega), fun h => absurd h (by omega), fun h => absurd h (by omega), Below.refl _ _⟩
  case round =>
    obtain ⟨k, rfl, hk, hkg, HP1, HP2, HP3, hB⟩ := hrel
    have hc : k = 0 ∨ k = 1 ∨ k = 2 ∨ k = 3 := by omega
    rcases hc with hk0 | hk1 | hk2 | hk3
    · subst hk0
      have hix := idx0 a b x
      go_wp2_with fail
      clear hix
      refine (check_any a _ (by omega)).mono ?_
      rintro e w1 ⟨rfl, hB1⟩
      have hBB := hB.trans (hB1.mono hB.size)
      rcases isB_or a with ⟨l, h1⟩ | h1
      · have e1 := Lib.hid (chk_yes h1)
        have S1 := Lib.hid (congrArg Option.isSome (split_iff.2 h1))
        rw [e1.out]
        clear h1
        go_wp2
        go_roundg (gk - 1)
        case rel => exact ⟨1, rfl, by omega, by omega, fun h => S1, fun h => absurd h (by omega), fun h => absurd h (by omega), hBB⟩
        case measure => omega
      · have e1 := Lib.hid (chk_no h1)
        have S1 := Lib.hid (congrArg Option.isSome h1)
        rw [e1.out]
        clear h1
        go_wp2
        go_ret
        exact ⟨ret_bool (by unfold covS; rw [S1.out]; simp), hBB⟩
    · subst hk1
      have hix := idx1 a b x
      go_wp2_with fail
      clear hix
      refine (check_any b _ (by omega)).mono ?_
      rintro e w1 ⟨rfl, hB1⟩
      have hBB := hB.trans (hB1.mono hB.size)
      rcases isB_or b with ⟨l, h1⟩ | h1
      · have e1 := Lib.hid (chk_yes h1)
        have S1 := Lib.hid (congrArg Option.isSome (split_iff.2 h1))
        rw [e1.out]
        clear h1
        go_wp2
        go_roundg (gk - 1)
        case rel => exact ⟨2, rfl, by omega, by omega, fun h => HP1 (by omega), fun h => S1, fun h => absurd h (by omega), hBB⟩
        case measure => omega
      · have e1 := Lib.hid (chk_no h1)
        have S1 := Lib.hid (congrArg Option.isSome h1)
        rw [e1.out]
        clear h1
        go_wp2
        go_ret
        exact ⟨ret_bool (by unfold covS; rw [S1.out]; simp), hBB⟩
    · subst hk2
      have hix := idx2 a b x
      go_wp2_with fail
      clear hix
      refine (check_any x _ (by omega)).mono ?_
      rintro e w1 ⟨rfl, hB1⟩
      have hBB := hB.trans (hB1.mono hB.size)
      rcases isB_or x with ⟨l, h1⟩ | h1
      · have e1 := Lib.hid (chk_yes h1)
        have S1 := Lib.hid (congrArg Option.isSome (split_iff.2 h1))
        rw [e1.out]
        clear h1
        go_wp2
        go_roundg (gk - 1)
        case rel => exact ⟨3, rfl, by omega, by omega, fun h => HP1 (by omega), fun h => HP2 (by omega), fun h => S1, hBB⟩
        case measure => omega
      · have e1 := Lib.hid (chk_no h1)
        have S1 := Lib.hid (congrArg Option.isSome h1)
        rw [e1.out]
        clear h1
        go_wp2
        go_ret
        exact ⟨ret_bool (by unfold covS; rw [S1.out]; simp), hBB⟩
    · subst hk3
      have S1 := HP1 (by omega)
      have S2 := HP2 (by omega)
      have S3 := HP3 (by omega)
      clear HP1 HP2 HP3
      go_wp2_with fail
      refine (between_any a b x _ ha hb hx).mono ?_
      rintro e w1 ⟨rfl, hB1⟩
      go_wp2
      go_ret
      exact ⟨ret_bool (by unfold covS; rw [S1.out, S2.out, S3.out]; simp), hB.trans (hB1.mono hB.size)⟩

set_option maxRecDepth 100000 in
set_option maxHeartbeats 2000000 in
theorem covers_any (a b x : ByteArray) (w : World) (ha : a.size ≤ 1048576) (hb : b.size ≤ 1048576) (hx : x.size ≤ 1048576) :
    Calls Tryz.prog 62 #[.string a, .string b, .string x] w fun e w' => e = .returned (.bool (covS a.data.toList b.data.toList x.data.toList)) ∧ Below w.heap.size w w' := by
  obtain ⟨ab, HAB⟩ : ∃ c, Hid (cmpS a.data.toList b.data.toList = c) := ⟨_, Lib.hid rfl⟩
  obtain ⟨ax, HAX⟩ : ∃ c, Hid (cmpS a.data.toList x.data.toList = c) := ⟨_, Lib.hid rfl⟩
  obtain ⟨xb, HXB⟩ : ∃ c, Hid (cmpS x.data.toList b.data.toList = c) := ⟨_, Lib.hid rfl⟩
  obtain ⟨R, HR⟩ : ∃ R, Hid ((if decide (ab < 0) then decide (ax < 0) && decide (xb < 0) else decide (ax < 0) || decide (xb < 0)) = R) := ⟨_, Lib.hid rfl⟩
  have HE : Hid (betS a.data.toList b.data.toList x.data.toList = R) := Lib.hid (by unfold betS ltS; rw [HAB.out, HAX.out, HXB.out]; exact HR.out)
  go_enter Tryz.func62, Tryz.ntmps62
  go_wp2_with fail
  refine (isName_any a _ (by omega)).mono ?_
  rintro e w1 ⟨rfl, hB1⟩
  have hC1 := hB1
  obtain ⟨n1, hn1⟩ : ∃ n, isB a = n := ⟨_, rfl⟩
  rw [hn1]
  have HN1 : Hid ((split a.data.toList).isSome = n1) := Lib.hid hn1
  clear hn1
  cases n1
  · have HN := HN1
    go_wp2
    go_ret
    exact ⟨ret_bool (by unfold covS; rw [HN.out]; simp), hC1⟩
  · go_wp2_with fail
    refine (isName_any b _ (by omega)).mono ?_
    rintro e w2 ⟨rfl, hB2⟩
    have hC2 := hC1.trans (hB2.mono hC1.size)
    obtain ⟨n2, hn2⟩ : ∃ n, isB b = n := ⟨_, rfl⟩
    rw [hn2]
    have HN2 : Hid ((split b.data.toList).isSome = n2) := Lib.hid hn2
    clear hn2
    cases n2
    · have HN := HN2
      go_wp2
      go_ret
      exact ⟨ret_bool (by unfold covS; rw [HN.out]; simp), hC2⟩
    · go_wp2_with fail
      refine (isName_any x _ (by omega)).mono ?_
      rintro e w3 ⟨rfl, hB3⟩
      have hC3 := hC2.trans (hB3.mono hC2.size)
      obtain ⟨n3, hn3⟩ : ∃ n, isB x = n := ⟨_, rfl⟩
      rw [hn3]
      have HN3 : Hid ((split x.data.toList).isSome = n3) := Lib.hid hn3
      clear hn3
      cases n3
      · have HN := HN3
        go_wp2
        go_ret
        exact ⟨ret_bool (by unfold covS; rw [HN.out]; simp), hC3⟩
      · go_wp2_with fail
        refine (compare_any a x _ (by omega) (by omega)).mono ?_
        rintro e w4 ⟨rfl, hB4⟩
        rw [HAX.out]
        have hC4 := hC3.trans (hB4.mono hC3.size)
        go_wp2_with fail
        refine (compare_any x b _ (by omega) (by omega)).mono ?_
        rintro e w5 ⟨rfl, hB5⟩
        rw [HXB.out]
        have hC5 := hC4.trans (hB5.mono hC4.size)
        go_wp2_with fail
        refine (compare_any a b _ (by omega) (by omega)).mono ?_
        rintro e w6 ⟨rfl, hB6⟩
        rw [HAB.out]
        have hC6 := hC5.trans (hB6.mono hC5.size)
        rcases lt_cases ab with ⟨p1, d1⟩ | ⟨p1, d1⟩ <;> rcases lt_cases ax with ⟨p2, d2⟩ | ⟨p2, d2⟩ <;> rcases lt_cases xb with ⟨p3, d3⟩ | ⟨p3, d3⟩
        · have D1 := Lib.hid d1
          have D2 := Lib.hid d2
          have D3 := Lib.hid d3
          go_wp2
          go_ret
          exact ⟨ret_bool (by unfold covS; rw [HN1.out, HN2.out, HN3.out, HE.out, ← HR.out]; simp [D1.out, D2.out, D3.out]), hC6⟩
        · have D1 := Lib.hid d1
          have D2 := Lib.hid d2
          have D3 := Lib.hid d3
          go_wp2
          go_ret
          exact ⟨ret_bool (by unfold covS; rw [HN1.out, HN2.out, HN3.out, HE.out, ← HR.out]; simp [D1.out, D2.out, D3.out]), hC6⟩
        · have D1 := Lib.hid d1
          have D2 := Lib.hid d2
          have D3 := Lib.hid d3
          go_wp2
          go_ret
          exact ⟨ret_bool (by unfold covS; rw [HN1.out, HN2.out, HN3.out, HE.out, ← HR.out]; simp [D1.out, D2.out, D3.out]), hC6⟩
        · have D1 := Lib.hid d1
          have D2 := Lib.hid d2
          have D3 := Lib.hid d3
          go_wp2
          go_ret
          exact ⟨ret_bool (by unfold covS; rw [HN1.out, HN2.out, HN3.out, HE.out, ← HR.out]; simp [D1.out, D2.out, D3.out]), hC6⟩
        · have D1 := Lib.hid d1
          have D2 := Lib.hid d2
          have D3 := Lib.hid d3
          go_wp2
          go_ret
          exact ⟨ret_bool (by unfold covS; rw [HN1.out, HN2.out, HN3.out, HE.out, ← HR.out]; simp [D1.out, D2.out, D3.out]), hC6⟩
        · have D1 := Lib.hid d1
          have D2 := Lib.hid d2
          have D3 := Lib.hid d3
          go_wp2
          go_ret
          exact ⟨ret_bool (by unfold covS; rw [HN1.out, HN2.out, HN3.out, HE.out, ← HR.out]; simp [D1.out, D2.out, D3.out]), hC6⟩
        · have D1 := Lib.hid d1
          have D2 := Lib.hid d2
          have D3 := Lib.hid d3
          go_wp2
          go_ret
          exact ⟨ret_bool (by unfold covS; rw [HN1.out, HN2.out, HN3.out, HE.out, ← HR.out]; simp [D1.out, D2.out, D3.out]), hC6⟩
        · have D1 := Lib.hid d1
          have D2 := Lib.hid d2
          have D3 := Lib.hid d3
          go_wp2
          go_ret
          exact ⟨ret_bool (by unfold covS; rw [HN1.out, HN2.out, HN3.out, HE.out, ← HR.out]; simp [D1.out, D2.out, D3.out]), hC6⟩

end Go.Proofs.YtanoiiodnddkfaaGreat.cov
