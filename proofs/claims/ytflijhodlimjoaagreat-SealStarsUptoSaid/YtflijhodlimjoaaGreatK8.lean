/- The reference's Compare: walk. name.Join, the reference's Join: walks. Star, IsStar of name and of the reference; sameTexts: walks. Bits: plain lists of noughts and ones; base 2^n. The fields of data: plain. -/
import Derived.Test.YtflijhodlimjoaaGreatK7
import Derived.Test.YtflijhodlimjoaaGreatK5
import Derived.Test.YtflijhodlimjoaaGreatK2
import Derived.Test.YtflijhodlimjoaaGreatK1
import Derived.Test.YtflijhodlimjoaaGreatK3
import Derived.Deep.DeepCutAuto
import Derived.Deep.QuietTactic
import Derived.BigQuiet
namespace Go.Proofs.YtflijhodlimjoaaGreat.rcmp
open Go.RowKit Go.Proofs.YtflijhodlimjoaaGreat.kit Go.Proofs.YtflijhodlimjoaaGreat.check Go.Proofs.YtflijhodlimjoaaGreat.nspec Go.Proofs.YtflijhodlimjoaaGreat.rsplit Go.Proofs.YtflijhodlimjoaaGreat.low Go.Proofs.YtflijhodlimjoaaGreat.refA Go.Proofs.YtflijhodlimjoaaGreat.nameL Go.Proofs.YtflijhodlimjoaaGreat.ncmp Go.Proofs.YtflijhodlimjoaaGreat.refC

theorem less_iff : ∀ (u v : List UInt8), Op.bytesLess u v = decide (Lib.compareBytes u v = -1)
  | [], [] => by simp [Op.bytesLess, Lib.compareBytes]
  | _ :: _, [] => by simp [Op.bytesLess, Lib.compareBytes]
  | [], _ :: _ => by simp [Op.bytesLess, Lib.compareBytes]
  | a :: x, b :: y => by
    rw [Op.bytesLess, less_iff x y, Lib.compareBytes]
    by_cases h1 : a < b
    · simp [h1]
    · by_cases h2 : b < a
      · have : a ≠ b := by rintro rfl; exact h1 h2
        simp [h1, h2, this]
      · have : a = b := by
          rw [UInt8.lt_iff_toNat_lt] at h1 h2
          exact UInt8.toNat.inj (by omega)
        simp [this]
theorem cmp_eq0 : ∀ (u v : List UInt8), Lib.compareBytes u v = 0 ↔ u = v
  | [], [] => by simp [Lib.compareBytes]
  | _ :: _, [] => by simp [Lib.compareBytes]
  | [], _ :: _ => by simp [Lib.compareBytes]
  | a :: x, b :: y => by
    rw [Lib.compareBytes]
    by_cases h1 : a < b
    · have : a ≠ b := by rintro rfl; rw [UInt8.lt_iff_toNat_lt] at h1; omega
      simp [h1, this]
    · by_cases h2 : b < a
      · have : a ≠ b := by rintro rfl; exact h1 h2
        simp [h1, h2, this]
      · have : a = b := by
          rw [UInt8.lt_iff_toNat_lt] at h1 h2
          exact UInt8.toNat.inj (by omega)
        simp [this, cmp_eq0 x y]
theorem cmp_cases (u v : List UInt8) : (Lib.compareBytes u v = -1 ∧ Op.bytesLess u v = true) ∨ (Lib.compareBytes u v = 0 ∧ Op.bytesLess u v = false ∧ (u == v) = true) ∨ (Lib.compareBytes u v = 1 ∧ Op.bytesLess u v = false ∧ (u == v) = false) := by
  have h := cmp_ge u v
  have h2 := cmp_eq0 u v
  rw [less_iff]
  by_cases h3 : Lib.compareBytes u v = -1
  · exact .inl ⟨h3, by simp [h3]⟩
  · by_cases h4 : Lib.compareBytes u v = 0
    · exact .inr (.inl ⟨h4, by simp [h4], by simpa using h2.1 h4⟩)
    · exact .inr (.inr ⟨by omega, by simp [h3], by simpa using fun h5 => h4 (h2.2 h5)⟩)

theorem sv_cap {w : World} {v : Value} {base : Nat} {ls : List Bs} (h : SV w v base ls) : ∃ a c, v = .slice a ls.length c ∧ ls.length ≤ c ∧ Rd w a base ls := by
  rcases h with ⟨rfl, h⟩ | ⟨h0, g, c, h1, h2, h3, h4, h5, h6⟩
  · exact ⟨none, 0, h, Nat.le_refl _, Rd.nil _ _ _⟩
  · exact ⟨_, c, h1, h2, fun j x hx => ⟨g, 0, rfl, h4, h5, by rw [Nat.zero_add]; exact h6 j x hx⟩⟩
theorem take_rev {ls : List Bs} {i : Nat} {x : Bs} (h : ls[i]? = some x) : ((ls.take (i + 1)).map lowL).reverse = lowL x :: ((ls.take i).map lowL).reverse := by
  obtain ⟨h3, h4⟩ := List.getElem?_eq_some_iff.1 h
  rw [List.take_add_one, List.getElem?_eq_getElem h3, h4]; simp

theorem keep3 {wr w w' : World} {p1 p2 : Addr} {v1 v2 : Value} (h : w.cell? p1 = some v1 ∧ w.cell? p2 = some v2 ∧ Below wr.heap.size wr w) (hB : Below w.heap.size w w') (h1 : p1.block < wr.heap.size) (h2 : p2.block < wr.heap.size) : w'.cell? p1 = some v1 ∧ w'.cell? p2 = some v2 ∧ Below wr.heap.size wr w' :=
  ⟨(hB.cell (p := p1) (Nat.lt_of_lt_of_le h1 h.2.2.size)).trans h.1, (hB.cell (p := p2) (Nat.lt_of_lt_of_le h2 h.2.2.size)).trans h.2.1, h.2.2.trans (hB.mono h.2.2.size)⟩

set_option maxRecDepth 100000 in
set_option maxHeartbeats 4000000 in
theorem compare_yes (s t : ByteArray) (x y : List Bs) (w : World) (h1 : IsN s.data.toList x) (h2 : IsN t.data.toList y) :
    Calls Tryz.prog 160 #[.string s, .string t] w fun e w' => e = .returned (.int .i64 (cmpS s.data.toList t.data.toList)) ∧ Below w.heap.size w w' := by
  obtain ⟨R, HR⟩ : ∃ R, Hid (R = cmpS s.data.toList t.data.toList) := ⟨_, Lib.hid rfl⟩
  have hs : s.size ≤ 255 := by have := h1.2.2; rwa [size_len] at this
  have ht : t.size ≤ 255 := by have := h2.2.2; rwa [size_len] at this
  have hlx := split_len h1
  have hly := split_len h2
  have HC : Hid (cmpR ((x.take x.length).map lowL).reverse ((y.take y.length).map lowL).reverse = R) := Lib.hid (by rw [HR.out, cmpS_yes h1 h2, List.take_length, List.take_length])
  have L1 := Lib.hid h1; have L2 := Lib.hid h2; clear h1 h2
  go_enter Tryz.func160, Tryz.ntmps160
  go_wp2_with fail
  refine (split_yes s x _ L1.out).mono ?_
  rintro e w1 ⟨v1, rfl, hsv1, hB1⟩
  go_wp2_with fail
  refine (split_yes t y _ L2.out).mono ?_
  rintro e w2 ⟨v2, rfl, hsv2, hB2⟩
  have hB12 := hB1.trans (hB2.mono hB1.size)
  obtain ⟨a1, c1, rfl, hk1, hr1⟩ := sv_cap (hsv1.below hB2 rfl)
  obtain ⟨a2, c2, rfl, hk2, hr2⟩ := sv_cap hsv2
  have HR1 := Lib.hid hr1; have HR2 := Lib.hid hr2
  clear hr1 hr2 hsv1 hsv2 hB1 hB2
  go_wp2
  go_loopg [5, 7] (x.length + 1) (fun gas xv yv wr => ∃ (i j : Nat) (d1 d2 : Nat), xv = .slice a1 i d1 ∧ yv = .slice a2 j d2 ∧ i ≤ d1 ∧ j ≤ d2 ∧ i ≤ x.length ∧ j ≤ y.length ∧ gas = i + 1 ∧ Hid (cmpR ((x.take i).map lowL).reverse ((y.take j).map lowL).reverse = R) ∧ Below w2.heap.size w2 wr)
  case atStart => exact ⟨x.length, y.length, c1, c2, rfl, rfl, hk1, hk2, by omega, by omega, rfl, HC, Below.refl _ _⟩
  case round =>
    obtain ⟨i, j, d1, d2, rfl, rfl, hd1, hd2, hi, hj, hkg, HW, hB⟩ := hrel
    by_cases hi0 : i = 0
    · subst hi0
      by_cases hj0 : j = 0
      · subst hj0
        have HN := Lib.hid (cr_nil HW.out (by simp) (by simp))
        go_wp2
        go_ret
        exact ⟨ret_int (HN.out.trans HR.out), hB12.trans (hB.mono hB12.size)⟩
      · have HN := Lib.hid (cr_lt HW.out (by simp) (by simp; omega))
        have hj0' : ((j : Int) == 0) = false := by simpa using hj0
        clear hj0
        go_wp2
        go_ret
        exact ⟨ret_int (HN.out.trans HR.out), hB12.trans (hB.mono hB12.size)⟩
    · have hi0' : ((i : Int) == 0) = false := by simpa using hi0
      by_cases hj0 : j = 0
      · subst hj0
        have HN := Lib.hid (cr_gt HW.out (by simp) (by simp; omega))
        clear hi0
        go_wp2
        go_ret
        exact ⟨ret_int (HN.out.trans HR.out), hB12.trans (hB.mono hB12.size)⟩
      · have hj0' : ((j : Int) == 0) = false := by simpa using hj0
        obtain ⟨m, hm⟩ : ∃ m, i = m + 1 := ⟨i - 1, by omega⟩
        obtain ⟨n, hn⟩ : ∃ n, j = n + 1 := ⟨j - 1, by omega⟩
        clear hi0 hj0
        have HW2 : Hid (cmpR ((x.take (m + 1)).map lowL).reverse ((y.take (n + 1)).map lowL).reverse = R) := by rw [← hm, ← hn]; exact HW
        obtain ⟨p, hp⟩ : ∃ p, x[m]? = some p := ⟨_, List.getElem?_eq_getElem (by omega)⟩
        obtain ⟨q, hq⟩ : ∃ q, y[n]? = some q := ⟨_, List.getElem?_eq_getElem (by omega)⟩
        obtain ⟨g1, o1, rfl, _, hg1, hcl1⟩ := HR1.out _ p hp
        obtain ⟨g2, o2, rfl, _, hg2, hcl2⟩ := HR2.out _ q hq
        have hcx := (hB.cell (p := ⟨g1, o1 + m, none⟩) hg1).trans hcl1
        have hcy := (hB.cell (p := ⟨g2, o2 + n, none⟩) hg2).trans hcl2
        have HP := Lib.hid (take_rev hp); have HQ := Lib.hid (take_rev hq)
        have hpl := L1.out.2.1 p (List.mem_of_getElem? hp)
        have hql := L2.out.2.1 q (List.mem_of_getElem? hq)
        have lp := low_any ⟨p.toArray⟩
        have lq := low_any ⟨q.toArray⟩
        rw [mk_data, mk_size] at lp lq
        have LP := fun w => Lib.hid (lp w (by unfold maxLen; omega))
        have LQ := fun w => Lib.hid (lq w (by unfold maxLen; omega))
        have hg1' := Nat.lt_of_lt_of_le hg1 hB.size
        have hg2' := Nat.lt_of_lt_of_le hg2 hB.size
        clear hcl1 hcl2 hp hq hpl hql lp lq hg1 hg2
        have imx : (i : Int) - 1 = (m : Int) := by omega
        have imy : (j : Int) - 1 = (n : Int) := by omega
        have lmx : (m : Int) < (i : Int) := by omega
        have lmy : (n : Int) < (j : Int) := by omega
        have lnx : m ≤ d1 := by omega
        have wx1 : IntKind.i64.wrap (m : Int) = (m : Int) := IntWalk.i64_in _ (by omega)
        have wy1 : IntKind.i64.wrap (n : Int) = (n : Int) := IntWalk.i64_in _ (by omega)
        have zx : (0 : Int) ≤ (m : Int) := by omega
        have zy : (0 : Int) ≤ (n : Int) := by omega
        have lny : n ≤ d2 := by omega
        have H5 := Lib.hid hm; have H6 := Lib.hid hn; clear hm hn HW
        unfold strV at hcx hcy
        go_upto_region 11 with (fail)
        go_cut [9, 10] (fun s9 s10 wx => s9 = .string ⟨(lowL p).toArray⟩ ∧ s10 = .string ⟨(lowL q).toArray⟩ ∧ Below wr.heap.size wr wx)
        case first =>
          have hBd : Below wr.heap.size wr wr.drew := below_drewN (Below.refl _ _) 1
          go_region_held3 (fun w' => w'.cell? ⟨g1, o1 + m, none⟩ = some (.string ⟨p.toArray⟩) ∧ w'.cell? ⟨g2, o2 + n, none⟩ = some (.string ⟨q.toArray⟩) ∧ Below wr.heap.size wr w') (first | assumption | (refine ⟨?_, ?_, ?_⟩ <;> assumption))
            (first
              | (go_at_call_of 133 (Value.string ⟨p.toArray⟩); refine (LP _).out.mono ?_; rintro e w' ⟨rfl, hBz⟩; have hBz2 := keep3 (by assumption) hBz hg1' hg2'; clear hBz)
              | (go_at_call_of 133 (Value.string ⟨q.toArray⟩); refine (LQ _).out.mono ?_; rintro e w' ⟨rfl, hBz⟩; have hBz2 := keep3 (by assumption) hBz hg1' hg2'; clear hBz))
          all_goals (go_wp2_with fail; go_meet; exact ⟨rfl, rfl, (‹_ ∧ _ ∧ Below _ _ _›).2.2⟩)
        case rest =>
          obtain ⟨rfl, rfl, hBx⟩ := hcut
          have hBy := hB.trans (hBx.mono hB.size)
          have hcc := cmp_cases (lowL p) (lowL q)
          have e1 : lowL p = (⟨(lowL p).toArray⟩ : ByteArray).toList := by rw [Lib.toList_data]
          have e2 : lowL q = (⟨(lowL q).toArray⟩ : ByteArray).toList := by rw [Lib.toList_data]
          have hcd : ∀ c : Int, (Lib.compareBytes (⟨(lowL p).toArray⟩ : ByteArray).toList (⟨(lowL q).toArray⟩ : ByteArray).toList = c) → Lib.compareBytes (lowL p) (lowL q) = c := fun c h => by rw [e1, e2]; exact h
          rw [e1, e2] at hcc
          have HCD := Lib.hid hcd
          clear hcd e1 e2
          generalize (⟨(lowL p).toArray⟩ : ByteArray) = PP at *
          generalize (⟨(lowL q).toArray⟩ : ByteArray) = QQ at *
          rcases hcc with ⟨hc1, hc2⟩ | ⟨hc1, hc2, hc3⟩ | ⟨hc1, hc2, hc3⟩
          · have HC1 := Lib.hid (HCD.out _ hc1)
            clear hc1
            have HN := Lib.hid (cr_ne HW2.out HP.out HQ.out (by rw [HC1.out]; omega))
            go_wp2
            go_ret
            exact ⟨ret_int (by rw [← HR.out, ← HN.out, HC1.out]), hB12.trans (hBy.mono hB12.size)⟩
          · have HC1 := Lib.hid (HCD.out _ hc1)
            clear hc1
            have HN := Lib.hid (cr_eq HW2.out HP.out HQ.out HC1.out)
            go_wp2_with fail
            go_quiet (fail)
            have hBn : Below w2.heap.size w2 (wc.drewN nq) := below_drewN hBy nq
            go_wp2
            have hm := H5.out
            have hn := H6.out
            go_roundg (gk - 1)
            case rel => exact ⟨m, n, d1, d2, rfl, rfl, by omega, by omega, by omega, by omega, by omega, HN, hBn⟩
            case measure => omega
          · have HC1 := Lib.hid (HCD.out _ hc1)
            clear hc1
            have HN := Lib.hid (cr_ne HW2.out HP.out HQ.out (by rw [HC1.out]; omega))
            go_wp2
            go_ret
            exact ⟨ret_int (by rw [← HR.out, ← HN.out, HC1.out]), hB12.trans (hBy.mono hB12.size)⟩

set_option maxRecDepth 100000 in
set_option maxHeartbeats 1000000 in
theorem compare_no (s t : ByteArray) (w : World) (hs : s.size ≤ 1099511627776) (ht : t.size ≤ 1099511627776) (h : split s.data.toList = none ∨ split t.data.toList = none) :
    Calls Tryz.prog 160 #[.string s, .string t] w fun e w' => e = .returned (.int .i64 0) ∧ Below w.heap.size w w' := by
  have hcase : isB s = false ∨ (isB s = true ∧ isB t = false) := by
    rcases isB_or s with ⟨x, h1⟩ | h1
    · rcases h with h | h
      · rw [split_iff.2 h1] at h; simp at h
      · exact .inr ⟨isB_yes h1, isB_no h⟩
    · exact .inl (isB_no h1)
  have HH := Lib.hid hcase
  clear h hcase
  go_enter Tryz.func160, Tryz.ntmps160
  go_wp2_with fail
  refine (split_gen s _ hs).mono ?_
  rintro e w1 ⟨a1, n1, c1, rfl, hB1⟩
  go_wp2_with fail
  refine (split_gen t _ ht).mono ?_
  rintro e w2 ⟨a2, n2, c2, rfl, hB2⟩
  have hB12 := hB1.trans (hB2.mono hB1.size)
  rcases HH.out with h1 | ⟨h1, h2⟩
  · rw [h1]
    clear h1
    obtain ⟨b, hb⟩ : ∃ b, isB t = b := ⟨_, rfl⟩
    rw [hb]
    cases b
    all_goals clear hb
    · go_wp2
      go_ret
      exact ⟨rfl, hB12⟩
    · go_wp2
      go_ret
      exact ⟨rfl, hB12⟩
  · rw [h1, h2]
    clear h1 h2
    go_wp2
    go_ret
    exact ⟨rfl, hB12⟩
theorem compare_any (s t : ByteArray) (w : World) (hs : s.size ≤ 1099511627776) (ht : t.size ≤ 1099511627776) :
    Calls Tryz.prog 160 #[.string s, .string t] w fun e w' => e = .returned (.int .i64 (cmpS s.data.toList t.data.toList)) ∧ Below w.heap.size w w' := by
  rcases isB_or s with ⟨x, h1⟩ | h1
  · rcases isB_or t with ⟨y, h2⟩ | h2
    · exact compare_yes s t x y w h1 h2
    · rw [cmpS_no2 h2]; exact compare_no s t w hs ht (.inr h2)
  · rw [cmpS_no1 h1]; exact compare_no s t w hs ht (.inl h1)
end Go.Proofs.YtflijhodlimjoaaGreat.rcmp
namespace Go.Proofs.YtflijhodlimjoaaGreat.join
open Go.RowKit Go.Proofs.YtflijhodlimjoaaGreat.kit Go.Proofs.YtflijhodlimjoaaGreat.check Go.Proofs.YtflijhodlimjoaaGreat.nspec Go.Proofs.YtflijhodlimjoaaGreat.rsplit Go.Proofs.YtflijhodlimjoaaGreat.refA Go.Proofs.YtflijhodlimjoaaGreat.bld Go.Proofs.YtflijhodlimjoaaGreat.rcmp Go.Proofs.YtflijhodlimjoaaGreat.rput

def badB (x : Bs) : Bool := decide (x.length < 1) || decide (63 < x.length)
theorem badB_no {x : Bs} : badB x = false ↔ 1 ≤ x.length ∧ x.length ≤ 63 := by
  unfold badB; rw [Bool.or_eq_false_iff, decide_eq_false_iff_not, decide_eq_false_iff_not]; omega
theorem badB_yes {x : Bs} (h : x.length < 1 ∨ 63 < x.length) : badB x = true := by
  unfold badB; rw [Bool.or_eq_true, decide_eq_true_eq, decide_eq_true_eq]; exact h
def badL (ls : List Bs) : Bool := ls.any badB
def joinS (ls : List Bs) : Bs × Int := if badL ls then ([], 3) else if 254 < room ls then ([], 4) else (put ls, 0)
theorem bad_ok {ls : List Bs} : badL ls = false ↔ okL ls := by
  unfold badL okL
  rw [List.any_eq_false]
  constructor
  · intro h x hx; exact badB_no.1 (by simpa using h x hx)
  · intro h x hx; rw [badB_no.2 (h x hx)]; simp
theorem bad_at {ls : List Bs} {k : Nat} {x : Bs} (h : ls[k]? = some x) (hx : badB x = true) : badL ls = true := by
  unfold badL; rw [List.any_eq_true]; exact ⟨x, List.mem_of_getElem? h, hx⟩
theorem take_room {ls : List Bs} {k : Nat} {x : Bs} (h : ls[k]? = some x) : room (ls.take (k + 1)) = room (ls.take k) + (x.length + 1) := by
  rw [List.take_add_one, h]; simp [room]
theorem take_bad {ls : List Bs} {k : Nat} {x : Bs} (h : ls[k]? = some x) (hb : badL (ls.take k) = false) (hx : badB x = false) : badL (ls.take (k + 1)) = false := by
  rw [List.take_add_one, h]; unfold badL at *; simp [hb, hx]
theorem join_bad {ls : List Bs} (h : badL ls = true) : joinS ls = ([], 3) := by unfold joinS; rw [if_pos h]
theorem join_long {ls : List Bs} (h : badL ls = false) (h2 : 254 < room ls) : joinS ls = ([], 4) := by unfold joinS; rw [h, if_neg (by simp), if_pos h2]
theorem join_ok {ls : List Bs} (h : badL ls = false) (h2 : ¬ 254 < room ls) : joinS ls = (put ls, 0) := by unfold joinS; rw [h, if_neg (by simp), if_neg h2]
def RetJ (r : Bs × Int) : Ending := .returned (.tuple #[.string ⟨r.1.toArray⟩, .int .i64 r.2])

theorem put_take {ls : List Bs} {k : Nat} {x : Bs} (h : ls[k]? = some x) : flat (ls.take (k + 1)) = flat (ls.take k) ++ (UInt8.ofNat x.length :: x) := by
  rw [List.take_add_one, h]; simp [flat]

set_option maxRecDepth 100000 in
set_option maxHeartbeats 4000000 in
theorem njoin_any (a : Option Addr) (c : Nat) (ls : List Bs) (w : World) (hr : Rd w a 0 ls) (hl : ls.length ≤ 1048576) (_hc : ls.length ≤ c) :
    Calls Tryz.prog 22 #[.slice a ls.length c] w fun e w' => e = RetJ (joinS ls) ∧ Below w.heap.size w w' := by
  obtain ⟨R, HR⟩ : ∃ R, Hid (joinS ls = R) := ⟨_, Lib.hid rfl⟩
  rw [HR.out]
  have H := Lib.hid hr
  clear hr
  go_enter Tryz.func22, Tryz.ntmps22
  go_wp2
  go_loopg [4, 12] (ls.length + 1) (fun gas zv kv wr => ∃ (k : Nat) (z : Int), zv = .int .i64 z ∧ kv = .int .i64 k ∧ 0 ≤ z ∧ z ≤ 256 ∧ k ≤ ls.length ∧ k + gas = ls.length + 1 ∧ Hid (z = min (1 + (room (ls.take k) : Int)) 256) ∧ Hid (badL (ls.take k) = false) ∧ Below w.heap.size w wr)
  case atStart => exact ⟨0, 1, rfl, rfl, by omega, by omega, by omega, by omega, Lib.hid rfl, Lib.hid rfl, Below.refl _ _⟩
  case round =>
    obtain ⟨k, z, rfl, rfl, hz0, hz1, hk, hkg, HZ, HW, hB⟩ := hrel
    have HK := Lib.hid hkg; clear hkg
    by_cases hlt : k < ls.length
    · obtain ⟨x, hx⟩ : ∃ x, ls[k]? = some x := ⟨_, List.getElem?_eq_getElem hlt⟩
      obtain ⟨g1, o1, rfl, _, hg1, hcl1⟩ := H.out _ x hx
      have hcx := (hB.cell (p := ⟨g1, o1 + k, none⟩) hg1).trans hcl1
      have HX := Lib.hid hx
      clear hx hcl1
      unfold strV at hcx
      obtain ⟨X, hX⟩ : ∃ X : ByteArray, ⟨x.toArray⟩ = X := ⟨_, rfl⟩
      have hXx : x = X.data.toList := by rw [← hX]
      rw [hX] at hcx
      subst hXx
      clear hX
      by_cases h1 : (X.size : Int) < 1
      · have HY := Lib.hid (join_bad (bad_at HX.out (badB_yes (by rw [size_len]; omega))))
        go_wp2
        go_ret2
        exact ⟨by rw [← HR.out, HY.out]; rfl, hB⟩
      · by_cases h2 : 63 < (X.size : Int)
        · have HY := Lib.hid (join_bad (bad_at HX.out (badB_yes (by rw [size_len]; omega))))
          go_wp2
          go_ret2
          exact ⟨by rw [← HR.out, HY.out]; rfl, hB⟩
        · have HT := Lib.hid (take_room HX.out)
          have HB := Lib.hid (take_bad HX.out HW.out (badB_no.2 (by rw [size_len]; omega)))
          go_wp2
          have hkg := HK.out
          have hzz := HZ.out
          have ht := HT.out
          rw [size_len] at ht
          go_roundg (gk - 1)
          case rel => exact ⟨k + 1, _, rfl, by go_num, by omega, by omega, by omega, by omega, Lib.hid (by omega), HB, hB⟩
          case measure => omega
    · have hkk : k = ls.length := by omega
      have hzz := HZ.out
      have hbb := HW.out
      rw [hkk, List.take_length] at hzz hbb
      by_cases h4 : 255 < z
      · have HY := Lib.hid (join_long hbb (by omega))
        clear hzz hbb hkk
        go_wp2
        go_ret2
        exact ⟨by rw [← HR.out, HY.out]; rfl, hB⟩
      · have HY := Lib.hid (join_ok hbb (by omega))
        have hrm : room ls ≤ 254 := by omega
        have HO := Lib.hid (bad_ok.1 hbb)
        clear hzz hbb hkk
        go_wp2_with fail
        obtain ⟨B, hBB⟩ : ∃ B, wr.heap.size = B := ⟨_, rfl⟩
        have hfb := Lib.fresh_isBuilder 111 5 wr
        have hBa := (Below.refl B wr).alloc (by omega) (.cells #[.pointer none, .slice none 0 0] 111)
        have hwB := hB.size
        rw [hBB] at hfb
        rw [hBB]
        go_loopg [35] (ls.length + 1) (fun gas kv wq => ∃ (k : Nat), kv = .int .i64 k ∧ k ≤ ls.length ∧ k + gas = ls.length + 1 ∧ Bld B B (flat (ls.take k)) wq ∧ Below B wr wq)
        case atStart => exact ⟨0, rfl, by omega, by omega, hfb, hBa⟩
        case round =>
          clear hfb hBa
          obtain ⟨j, rfl, hj, hjg, hbl, hBq⟩ := hrel
          have HJ := Lib.hid hjg; clear hjg
          have hqz := hBq.size
          have hBw := hB.trans (hBq.mono (by omega))
          have hfl : (flat (ls.take j)).length ≤ 254 := by
            rw [flat_length]; have := room_append (ls.take j) (ls.drop j); rw [List.take_append_drop] at this; omega
          by_cases hjt : j < ls.length
          · obtain ⟨x, hx⟩ : ∃ x, ls[j]? = some x := ⟨_, List.getElem?_eq_getElem hjt⟩
            obtain ⟨g1, o1, rfl, _, hg1, hcl1⟩ := H.out _ x hx
            have hcx := (hBw.cell (p := ⟨g1, o1 + j, none⟩) hg1).trans hcl1
            have HX := Lib.hid hx
            have hx63 := HO.out x (List.mem_of_getElem? hx)
            clear hx hcl1
            unfold strV at hcx
            obtain ⟨X, hX⟩ : ∃ X : ByteArray, ⟨x.toArray⟩ = X := ⟨_, rfl⟩
            have hXx : x = X.data.toList := by rw [← hX]
            rw [hX] at hcx
            subst hXx
            clear hX
            rw [size_len] at hx63
            obtain ⟨hx0, hx63⟩ := hx63
            have HF := Lib.hid (put_take HX.out)
            obtain ⟨Q, hQ⟩ : ∃ Q, flat (ls.take j) = Q := ⟨_, rfl⟩
            rw [hQ] at hbl hfl
            have HQ := Lib.hid hQ; clear hQ
            have hwb := wb B B Q (UInt8.ofNat X.size) wr hbl (by omega) (by omega)
            rw [nat_of (by omega)] at hwb
            have HWB := Lib.hid hwb
            clear hwb hbl
            go_wp2_with fail
            refine HWB.out.mono ?_
            rintro e v1 ⟨rfl, hb1, hE1⟩
            have hv1 := hE1.size
            go_wp2_with fail
            refine (ws B B _ X _ hb1 (by rw [List.length_append, List.length_singleton]; omega) (by omega)).mono ?_
            rintro e v2 ⟨rfl, hb2, hE2⟩
            go_wp2
            have hjg := HJ.out
            go_roundg (gk - 1)
            case rel => exact ⟨j + 1, by go_num, by omega, by omega, by rw [HF.out, HQ.out, size_len, ← List.singleton_append, ← List.append_assoc]; exact hb2, (hBq.trans hE1).trans hE2⟩
            case measure => omega
          · have hjj : j = ls.length := by omega
            rw [hjj, List.take_length] at hbl hfl
            clear hjj
            have hput : flat ls ++ [0] = put ls := (put_flat ls).symm
            have HPU := Lib.hid hput; clear hput
            have HWB := Lib.hid (wb B B (flat ls) 0 wr hbl (by omega) (by omega))
            clear hbl
            go_wp2_with fail
            refine HWB.out.mono ?_
            rintro e v1 ⟨rfl, hb1, hE1⟩
            have hv1 := hE1.size
            rw [HPU.out] at hb1
            go_wp2_with fail
            refine (Tryz.Builder_String_any B B (put ls) _ hb1 (by omega)).mono ?_
            rintro e v2 ⟨rfl, hE2⟩
            go_wp2
            go_ret2
            exact ⟨by rw [← HR.out, HY.out]; rfl, hBw.trans ((hE1.trans hE2).mono (by omega))⟩
end Go.Proofs.YtflijhodlimjoaaGreat.join
namespace Go.Proofs.YtflijhodlimjoaaGreat.star
open Go.RowKit Go.Proofs.YtflijhodlimjoaaGreat.kit Go.Proofs.YtflijhodlimjoaaGreat.check Go.Proofs.YtflijhodlimjoaaGreat.nspec Go.Proofs.YtflijhodlimjoaaGreat.rsplit Go.Proofs.YtflijhodlimjoaaGreat.rput Go.Proofs.YtflijhodlimjoaaGreat.refA Go.Proofs.YtflijhodlimjoaaGreat.refC Go.Proofs.YtflijhodlimjoaaGreat.rcmp Go.Proofs.YtflijhodlimjoaaGreat.join

def starS (l : Bs) : Bs := if (split l).isSome && decide (l.length ≤ 253) then 1 :: 42 :: l else []
theorem starS_no {l : Bs} (h : split l = none) : starS l = [] := by unfold starS; rw [h]; rfl
theorem starS_long {l : Bs} (h : 253 < l.length) : starS l = [] := by
  unfold starS; rw [decide_eq_false (by omega), Bool.and_false]; rfl
theorem starS_yes {l : Bs} {ls : List Bs} (h : IsN l ls) (hl : l.length ≤ 253) : starS l = 1 :: 42 :: l := by
  unfold starS; rw [split_iff.2 h, decide_eq_true hl]; rfl

set_option maxRecDepth 100000 in
theorem nstar_any (s : ByteArray) (w : World) (hs : s.size ≤ 1099511627776) :
    Calls Tryz.prog 21 #[.string s] w fun e w' => e = .returned (.string ⟨(starS s.data.toList).toArray⟩) ∧ Below w.heap.size w w' := by
  rcases isB_or s with ⟨ls, h⟩ | h
  · have HK := Lib.hid (chk_yes h)
    by_cases hl : 253 < (s.size : Int)
    · rw [starS_long (by rw [size_len]; omega)]
      clear h
      go_enter Tryz.func21, Tryz.ntmps21
      go_wp2_with fail
      refine (check_any s _ hs).mono ?_
      rintro e w1 ⟨rfl, hB1⟩
      rw [HK.out]
      go_wp2
      go_ret
      exact ⟨rfl, hB1⟩
    · rw [starS_yes h (by rw [size_len]; omega)]
      have hE : (⟨#[1, 42]⟩ : ByteArray) ++ s = ⟨(1 :: 42 :: s.data.toList).toArray⟩ := by apply ba_ext; simp
      have HE := Lib.hid hE
      clear h hE
      go_enter Tryz.func21, Tryz.ntmps21
      go_wp2_with fail
      refine (check_any s _ hs).mono ?_
      rintro e w1 ⟨rfl, hB1⟩
      rw [HK.out]
      go_wp2
      go_ret
      exact ⟨ret_str HE.out, hB1⟩
  · rw [starS_no h]
    have HK := Lib.hid (chk_no h)
    clear h
    go_enter Tryz.func21, Tryz.ntmps21
    go_wp2_with fail
    refine (check_any s _ hs).mono ?_
    rintro e w1 ⟨rfl, hB1⟩
    rw [HK.out]
    go_wp2
    go_ret
    exact ⟨rfl, hB1⟩

set_option maxRecDepth 100000 in
set_option maxHeartbeats 1000000 in
theorem star_any (s : ByteArray) (w : World) (hs : s.size ≤ 1099511627776) :
    Calls Tryz.prog 35 #[.string s] w fun e w' => e = .returned (.string ⟨(starS s.data.toList).toArray⟩) ∧ Below w.heap.size w w' := by
  rcases isB_or s with ⟨ls, h⟩ | h
  · by_cases hl : 253 < (s.size : Int)
    · rw [starS_long (by rw [size_len]; omega)]
      have L := Lib.hid h
      clear h
      go_enter Tryz.func35, Tryz.ntmps35
      go_wp2_with fail
      refine (split_yes s ls _ L.out).mono ?_
      rintro e w1 ⟨v1, rfl, hsv1, hB1⟩
      go_wp2
      go_ret
      exact ⟨rfl, hB1⟩
    · rw [starS_yes h (by rw [size_len]; omega)]
      obtain ⟨i0, hi, hz0, hz1, hz2⟩ := info_parts infoStr
      have hll := split_len h
      have hrm := isN_room h
      have hE : put ([42] :: ls) = 1 :: 42 :: s.data.toList := by rw [put, h.1]; rfl
      have HE := Lib.hid hE
      have L := Lib.hid h
      clear h hE
      go_enter Tryz.func35, Tryz.ntmps35
      go_wp2_with fail
      refine (split_yes s ls _ L.out).mono ?_
      rintro e w1 ⟨v1, rfl, hsv1, hB1⟩
      obtain ⟨A3, C3, rfl, hsrc⟩ : ∃ A3 C3, v1 = .slice A3 ls.length C3 ∧ ((A3 = none ∧ ls.length = 0 ∧ C3 = 0) ∨ ∃ ad, A3 = some ad ∧ ∀ (j : Nat) (u : Value), (ls.map strV)[j]? = some u → (w1.alloc (.cells #[.string ⟨#[42]⟩] 9)).cell? (ad.add j) = some u) := by
        have hBa := (Below.refl w1.heap.size w1).alloc (Nat.le_refl _) (.cells #[.string ⟨#[42]⟩] 9)
        rcases hsv1.below hBa rfl with ⟨rfl, rfl⟩ | ⟨_, g, c, rfl, _, _, _, _, h5⟩
        · exact ⟨none, 0, rfl, .inl ⟨rfl, rfl, rfl⟩⟩
        · exact ⟨_, c, rfl, .inr ⟨_, rfl, by have := SV.src ls.length h5; rwa [List.take_length] at this⟩⟩
      have HSRC := Lib.hid hsrc; clear hsrc hsv1
      have hrow : (w1.alloc (.cells #[.string ⟨#[42]⟩] 9)).ownsRow w1.heap.size 9 1 (.slice (some ⟨w1.heap.size, 0, none⟩) 1 1) 1 [.string ⟨#[42]⟩] :=
        ⟨rfl, .inr ⟨w1.heap.size, 1, #[.string ⟨#[42]⟩], rfl, Nat.le_refl _, Array.getElem?_push_size, Nat.le_refl _, by unfold maxLen; omega, rfl, rfl⟩⟩
      have HROW := Lib.hid hrow; clear hrow
      go_wp2_with (at_builtin; refine wpList_append_src rfl (.tmp 17) (.tmp 18) 47 rfl w1.heap.size 9 i0 (.string ByteArray.empty) 1 16 Tryz.underlying47 hi hz0 hz1 hz2 rfl (by decide) _ 1 _ rfl HROW.out A3 ls.length C3 (ls.map strV) rfl ?b1 HSRC.out (one_str _) ?b3 ?b4 ?b5 ?_)
      case b1 => simp
      case b3 => unfold maxLen; omega
      case b4 => omega
      case b5 => simp
      intro v6 w6 hown6 hgr6
      have hB6 : Below w1.heap.size w1 w6 := below_append' ((Below.refl w1.heap.size w1).alloc (Nat.le_refl _) _) (by simp) HROW.out hgr6
      have hlen : ([42] :: ls : List Bs).length = 1 + ls.length := by simp; omega
      have hown7 : w6.ownsRow w1.heap.size 9 1 v6 ([42] :: ls : List Bs).length (([42] :: ls : List Bs).map strV) := by rw [hlen]; exact hown6
      obtain ⟨a6, c6, rfl, hrd⟩ := Rd.of_own hown7
      have HRD := Lib.hid (hrd.mono (Nat.zero_le _))
      clear hown6 hown7 hgr6 hrd hlen
      go_wp2_with fail
      refine (put_n _ _ _ ([42] :: ls) _ (by simp) HRD.out (by simp [room] at hrm ⊢; omega) (by simp; omega)).mono ?_
      rintro e w7 ⟨rfl, hB7⟩
      rw [HE.out]
      go_wp2
      go_ret
      exact ⟨rfl, hB1.trans ((hB6.trans (hB7.mono hB6.size)).mono hB1.size)⟩
  · rw [starS_no h]
    go_enter Tryz.func35, Tryz.ntmps35
    go_wp2_with fail
    refine (split_no s _ hs h).mono ?_
    rintro e w1 ⟨a1, n1, c1, rfl, hB1⟩
    clear h
    go_wp2
    go_ret
    exact ⟨rfl, hB1⟩

def isStarS (l : Bs) : Bool := match split l with | some (x :: _) => decide (x = [42]) | _ => false
theorem isStar_no {l : Bs} (h : split l = none) : isStarS l = false := by unfold isStarS; rw [h]
theorem isStar_root {l : Bs} (h : IsN l []) : isStarS l = false := by unfold isStarS; rw [split_iff.2 h]
theorem isStar_yes {l x : Bs} {r : List Bs} (h : IsN l (x :: r)) : isStarS l = decide (x = [42]) := by unfold isStarS; rw [split_iff.2 h]
theorem pre_star {l : Bs} {ls : List Bs} (h : IsN l ls) : Lib.hasPrefix l [1, 42] = isStarS l := by
  cases ls with
  | nil => rw [isStar_root h, h.1]; rfl
  | cons x r =>
    rw [isStar_yes h, h.1]
    obtain ⟨⟨h1, h2⟩, _⟩ := okL_cons.1 h.2.1
    unfold Lib.hasPrefix
    cases x with
    | nil => simp at h1
    | cons b y =>
      simp only [put, List.cons_append, List.isPrefixOf, Bool.and_true]
      by_cases hy : y = []
      · subst hy
        simp
        rw [Bool.eq_iff_iff, beq_iff_eq, decide_eq_true_eq]; exact eq_comm
      · have hne : ((1 : UInt8) == UInt8.ofNat (b :: y).length) = false := by
          have hyl : 1 ≤ y.length := by
            cases y with
            | nil => exact absurd rfl hy
            | cons p q => simp
          simp only [beq_eq_false_iff_ne]
          intro e
          have := congrArg UInt8.toNat e
          rw [nat_of (by omega)] at this
          simp at this
          exact hy this
        rw [hne, Bool.false_and]
        simp [hy]

set_option maxRecDepth 100000 in
theorem nisStar_any (s : ByteArray) (w : World) (hs : s.size ≤ 1099511627776) :
    Calls Tryz.prog 127 #[.string s] w fun e w' => e = .returned (.bool (isStarS s.data.toList)) ∧ Below w.heap.size w w' := by
  rcases isB_or s with ⟨ls, h⟩ | h
  · have HK := Lib.hid (chk_yes h)
    have HP := Lib.hid (pre_star h)
    clear h
    go_enter Tryz.func127, Tryz.ntmps127
    go_wp2_with fail
    refine (check_any s _ hs).mono ?_
    rintro e w1 ⟨rfl, hB1⟩
    rw [HK.out]
    go_wp2_with fail
    refine (Tryz.strings_HasPrefix s ⟨#[1, 42]⟩ _).mono ?_
    rintro e w2 ⟨rfl, rfl⟩
    rw [show Lib.hasPrefix s.data.toList (⟨#[1, 42]⟩ : ByteArray).data.toList = isStarS s.data.toList from HP.out]
    go_wp2
    go_ret
    exact ⟨rfl, hB1⟩
  · have HK := Lib.hid (chk_no h)
    rw [isStar_no h]
    clear h
    go_enter Tryz.func127, Tryz.ntmps127
    go_wp2_with fail
    refine (check_any s _ hs).mono ?_
    rintro e w1 ⟨rfl, hB1⟩
    rw [HK.out]
    go_wp2
    go_ret
    exact ⟨rfl, hB1⟩

set_option maxRecDepth 100000 in
theorem isStar_any (s : ByteArray) (w : World) (hs : s.size ≤ 1099511627776) :
    Calls Tryz.prog 132 #[.string s] w fun e w' => e = .returned (.bool (isStarS s.data.toList)) ∧ Below w.heap.size w w' := by
  rcases isB_or s with ⟨ls, h⟩ | h
  · have L := Lib.hid h
    cases ls with
    | nil =>
      rw [isStar_root h]
      clear h
      go_enter Tryz.func132, Tryz.ntmps132
      go_wp2_with fail
      refine (split_yes s [] _ L.out).mono ?_
      rintro e w1 ⟨v1, rfl, hsv1, hB1⟩
      obtain ⟨a1, c1, rfl, _⟩ := hsv1.rd
      clear hsv1
      go_wp2
      go_ret
      exact ⟨rfl, hB1⟩
    | cons x r =>
      rw [isStar_yes h]
      obtain ⟨n, hn⟩ : ∃ n, (x :: r).length = n + 1 := ⟨r.length, rfl⟩
      have hHX : (x :: r)[0]? = some x := rfl
      have hnl := split_len h
      rw [hn] at hnl
      have hpos : (0 : Int) < ((n + 1 : Nat) : Int) := by omega
      have HN := Lib.hid hn
      clear h hn
      go_enter Tryz.func132, Tryz.ntmps132
      go_wp2_with fail
      refine (split_yes s (x :: r) _ L.out).mono ?_
      rintro e w1 ⟨v1, rfl, hsv1, hB1⟩
      obtain ⟨a1, c1, rfl, hrd⟩ := hsv1.rd
      obtain ⟨g1, o1, rfl, _, hg1, hcl1⟩ := hrd 0 x hHX
      rw [HN.out]
      clear hsv1 hrd hHX
      unfold strV at hcl1
      rw [Nat.add_zero] at hcl1
      go_wp2
      go_ret
      refine ⟨ret_bool ?_, hB1⟩
      first | exact beq_dec x [42] | (rw [← beq_dec x [42]]; simp [Lib.toList_data])
  · rw [isStar_no h]
    go_enter Tryz.func132, Tryz.ntmps132
    go_wp2_with fail
    refine (split_no s _ hs h).mono ?_
    rintro e w1 ⟨a1, n1, c1, rfl, hB1⟩
    clear h
    go_wp2
    go_ret
    exact ⟨rfl, hB1⟩

theorem st_go {x y : List Bs} {k : Nat} {p q : Bs} {R : Bool} (h : decide (x.drop k = y.drop k) = R) (hp : x[k]? = some p) (hq : y[k]? = some q) (e : p = q) : decide (x.drop (k + 1) = y.drop (k + 1)) = R := by
  obtain ⟨h1, h2⟩ := List.getElem?_eq_some_iff.1 hp
  obtain ⟨h3, h4⟩ := List.getElem?_eq_some_iff.1 hq
  rw [List.drop_eq_getElem_cons h1, List.drop_eq_getElem_cons h3, h2, h4, e] at h
  rw [← h]; simp
theorem st_ne {x y : List Bs} {k : Nat} {p q : Bs} {R : Bool} (h : decide (x.drop k = y.drop k) = R) (hp : x[k]? = some p) (hq : y[k]? = some q) (e : p ≠ q) : false = R := by
  obtain ⟨h1, h2⟩ := List.getElem?_eq_some_iff.1 hp
  obtain ⟨h3, h4⟩ := List.getElem?_eq_some_iff.1 hq
  rw [List.drop_eq_getElem_cons h1, List.drop_eq_getElem_cons h3, h2, h4] at h
  rw [← h]; simp [e]
end Go.Proofs.YtflijhodlimjoaaGreat.star
namespace Go.Proofs.YtflijhodlimjoaaGreat.bits

/-- the n bits of v, the highest first -/
def tob (v : Nat) : Nat → List Nat
  | 0 => []
  | n + 1 => (v / 2 ^ n % 2) :: tob v n
/-- the number of bits, the highest first -/
def ofb (l : List Nat) : Nat := l.foldl (fun a b => 2 * a + b) 0
def bitsL (d : List UInt8) : List Nat := d.flatMap (fun c => tob c.toNat 8)
theorem tob_length (v n : Nat) : (tob v n).length = n := by
  induction n with
  | zero => rfl
  | succ n ih => simp [tob, ih]
theorem foldl_add (l : List Nat) (a : Nat) : l.foldl (fun a b => 2 * a + b) a = a * 2 ^ l.length + l.foldl (fun a b => 2 * a + b) 0 := by
  induction l generalizing a with
  | nil => simp
  | cons b r ih =>
    simp only [List.foldl_cons, List.length_cons]
    rw [ih, ih (2 * 0 + b), Nat.pow_succ]
    have : (2 * a + b) * 2 ^ r.length = a * (2 ^ r.length * 2) + (2 * 0 + b) * 2 ^ r.length := by
      rw [Nat.add_mul, Nat.mul_comm 2 a, Nat.mul_assoc, Nat.mul_comm 2 (2 ^ r.length)]; simp
    omega
theorem ofb_cons (b : Nat) (r : List Nat) : ofb (b :: r) = b * 2 ^ r.length + ofb r := by
  unfold ofb; rw [List.foldl_cons, foldl_add]; simp
theorem ofb_tob (v n : Nat) : ofb (tob v n) = v % 2 ^ n := by
  induction n with
  | zero => simp [tob, ofb, Nat.mod_one]
  | succ n ih =>
    rw [tob, ofb_cons, tob_length, ih, Nat.pow_succ]
    have := Nat.mod_mul (x := v) (a := 2 ^ n) (b := 2)
    rw [this, Nat.mul_comm]; omega
theorem tob_mod (v n m : Nat) (h : n ≤ m) : tob (v % 2 ^ m) n = tob v n := by
  induction n with
  | zero => rfl
  | succ n ih =>
    rw [tob, tob, ih (by omega)]
    congr 1
    obtain ⟨d, rfl⟩ : ∃ d, m = n + 1 + d := ⟨m - (n + 1), by omega⟩
    rw [show n + 1 + d = n + (1 + d) by omega, Nat.pow_add, Nat.mod_mul_right_div_self, Nat.pow_add, Nat.pow_one, Nat.mod_mul_right_mod]
theorem tob_append (v w n m : Nat) (hw : w < 2 ^ m) : tob (v * 2 ^ m + w) (n + m) = tob v n ++ tob w m := by
  induction n with
  | zero =>
    rw [Nat.zero_add, tob, List.nil_append]
    rw [← tob_mod (v * 2 ^ m + w) m m (Nat.le_refl _), Nat.mul_comm, Nat.mul_add_mod, Nat.mod_eq_of_lt hw]
  | succ n ih =>
    rw [show n + 1 + m = (n + m) + 1 by omega, tob, ih, tob, List.cons_append]
    congr 1
    rw [Nat.add_comm n m, Nat.pow_add, ← Nat.div_div_eq_div_mul, Nat.mul_comm v, Nat.mul_add_div (Nat.two_pow_pos m), Nat.div_eq_of_lt hw, Nat.add_zero]

/-- n bits a letter, the last filled up with noughts -/
def encF (n : Nat) (al : List UInt8) : Nat → List Nat → List UInt8
  | 0, _ => []
  | f + 1, l => if l = [] then [] else al.getD (ofb ((l ++ List.replicate n 0).take n)) 0 :: encF n al f (l.drop n)
def enc (n : Nat) (al : List UInt8) (l : List Nat) : List UInt8 := encF n al l.length l
theorem encF_fuel (n : Nat) (al : List UInt8) (hn : 1 ≤ n) : ∀ (f g : Nat) (l : List Nat), l.length ≤ f → l.length ≤ g → encF n al f l = encF n al g l
  | 0, 0, _, _, _ => rfl
  | 0, g + 1, l, h, _ => by
    have : l = [] := List.eq_nil_of_length_eq_zero (by omega)
    subst this; simp [encF]
  | f + 1, 0, l, _, h => by
    have : l = [] := List.eq_nil_of_length_eq_zero (by omega)
    subst this; simp [encF]
  | f + 1, g + 1, l, h1, h2 => by
    simp only [encF]
    by_cases hl : l = []
    · simp [hl]
    · have hp : 0 < l.length := List.length_pos_iff.2 hl
      rw [if_neg hl, if_neg hl, encF_fuel n al hn f g (l.drop n) (by rw [List.length_drop]; omega) (by rw [List.length_drop]; omega)]
theorem enc_nil (n : Nat) (al : List UInt8) : enc n al [] = [] := rfl
theorem enc_step {n : Nat} (al : List UInt8) {l : List Nat} (hn : 1 ≤ n) (hl : l ≠ []) : enc n al l = al.getD (ofb ((l ++ List.replicate n 0).take n)) 0 :: enc n al (l.drop n) := by
  have hp : 0 < l.length := List.length_pos_iff.2 hl
  unfold enc
  obtain ⟨f, hf⟩ : ∃ f, l.length = f + 1 := ⟨l.length - 1, by omega⟩
  rw [hf, encF, if_neg hl, encF_fuel n al hn f (l.drop n).length (l.drop n) (by rw [List.length_drop]; omega) (Nat.le_refl _)]
theorem enc_full {n : Nat} (al : List UInt8) (l t : List Nat) (hn : 1 ≤ n) (hl : l.length = n) : enc n al (l ++ t) = al.getD (ofb l) 0 :: enc n al t := by
  have hne : l ++ t ≠ [] := by
    intro h
    have := congrArg List.length h
    rw [List.length_append, List.length_nil] at this; omega
  rw [enc_step al hn hne, List.append_assoc, List.take_left' hl, List.drop_left' hl]
theorem ofb_zero (k : Nat) : ofb (List.replicate k 0) = 0 := by
  induction k with
  | zero => rfl
  | succ k ih => rw [List.replicate_succ, ofb_cons, ih]; simp
theorem ofb_append (x y : List Nat) : ofb (x ++ y) = ofb x * 2 ^ y.length + ofb y := by
  unfold ofb; rw [List.foldl_append, foldl_add]
theorem enc_last {n : Nat} (al : List UInt8) (l : List Nat) (hl : 0 < l.length) (hn : l.length ≤ n) : enc n al l = [al.getD (ofb l * 2 ^ (n - l.length)) 0] := by
  have hne : l ≠ [] := List.length_pos_iff.1 hl
  rw [enc_step (n := n) al (by omega) hne, List.take_append, List.take_of_length_le hn, List.take_replicate, List.drop_eq_nil_iff.2 hn, enc_nil, ofb_append, ofb_zero, List.length_replicate]
  rw [show min (n - l.length) n = n - l.length by omega, Nat.add_zero]
theorem bits_cons (c : UInt8) (r : List UInt8) : bitsL (c :: r) = tob c.toNat 8 ++ bitsL r := rfl
theorem encF_len (n : Nat) (al : List UInt8) (hn : 1 ≤ n) : ∀ (f : Nat) (l : List Nat), (encF n al f l).length ≤ l.length
  | 0, l => by simp [encF]
  | f + 1, l => by
    simp only [encF]
    by_cases hl : l = []
    · simp [hl]
    · have hp : 0 < l.length := List.length_pos_iff.2 hl
      have := encF_len n al hn f (l.drop n)
      rw [List.length_drop] at this
      rw [if_neg hl, List.length_cons]; omega
theorem enc_len (n : Nat) (al : List UInt8) (hn : 1 ≤ n) (l : List Nat) : (enc n al l).length ≤ l.length := encF_len n al hn _ _
theorem bitsL_len (d : List UInt8) : (bitsL d).length = 8 * d.length := by
  induction d with
  | nil => rfl
  | cons c r ih => rw [bits_cons, List.length_append, tob_length, ih, List.length_cons]; omega
theorem to_step {n : Nat} {al : List UInt8} {A : List UInt8} {h b : Nat} {c : UInt8} {r l : List UInt8} {R : List UInt8} (h1 : A ++ enc n al (tob h b ++ bitsL l) = R) (hl : l = c :: r) (hb : b + 8 ≤ 12) {H : Nat} (hH : (h * 256 + c.toNat) % 4096 = H) :
    A ++ enc n al (tob H (b + 8) ++ bitsL r) = R := by
  subst hl
  have hc := c.toNat_lt
  have e1 : tob H (b + 8) = tob h b ++ tob c.toNat 8 := by
    rw [← hH, show (4096 : Nat) = 2 ^ 12 from rfl, tob_mod _ _ _ hb, show (256 : Nat) = 2 ^ 8 from rfl, tob_append _ _ _ _ (by omega)]
  rw [e1, List.append_assoc, ← bits_cons]
  exact h1
theorem to_letter {n : Nat} {al : List UInt8} {A : List UInt8} {H q : Nat} {l : List Nat} {R : List UInt8} (h1 : A ++ enc n al (tob H (q + n) ++ l) = R) (hn : 1 ≤ n) :
    (A ++ [al.getD (H / 2 ^ q % 2 ^ n) 0]) ++ enc n al (tob H q ++ l) = R := by
  have e : tob H (q + n) = tob (H / 2 ^ q) n ++ tob H q := by
    have h2 := tob_append (H / 2 ^ q) (H % 2 ^ q) n q (Nat.mod_lt _ (Nat.two_pow_pos q))
    rw [Nat.div_add_mod', tob_mod H q q (Nat.le_refl _), Nat.add_comm n q] at h2
    exact h2
  rw [e, List.append_assoc, enc_full al _ _ hn (tob_length _ _), ofb_tob] at h1
  rw [← h1]; simp
theorem to_last {n : Nat} {al : List UInt8} {A : List UInt8} {H b : Nat} {R : List UInt8} (h1 : A ++ enc n al (tob H b ++ bitsL []) = R) (hb : 0 < b) (hn : b ≤ n) :
    A ++ [al.getD (H * 2 ^ (n - b) % 2 ^ n) 0] = R := by
  have e : tob H b ++ bitsL [] = tob H b := by simp [bitsL]
  rw [e, enc_last al _ (by rw [tob_length]; exact hb) (by rw [tob_length]; exact hn), tob_length, ofb_tob] at h1
  rw [← h1]
  obtain ⟨d, rfl⟩ : ∃ d, n = b + d := ⟨n - b, by omega⟩
  rw [Nat.add_sub_cancel_left, Nat.pow_add, Nat.mul_mod_mul_right]
theorem to_end {n : Nat} {al : List UInt8} {A : List UInt8} {H : Nat} {R : List UInt8} (h1 : A ++ enc n al (tob H 0 ++ bitsL []) = R) : A = R := by
  rw [← h1]; simp [tob, bitsL, enc_nil]
end Go.Proofs.YtflijhodlimjoaaGreat.bits
namespace Go.Proofs.YtflijhodlimjoaaGreat.fld
open Go.Proofs.YtflijhodlimjoaaGreat.nspec Go.Proofs.YtflijhodlimjoaaGreat.bits

inductive Fld where
  | num (k : Nat) | ip4 | ip6 | host | text | texts | tail | hexes | b64 | kind | kinds | salt | hash

def hostS (d : Bs) : Int := match (List.range 256).find? (fun k => (split (d.take k)).isSome) with | some k => (k : Int) | none => -1
def textS : Bs → Int
  | [] => -1
  | c :: r => if r.length < c.toNat then -1 else 1 + (c.toNat : Int)
def textsF : Nat → Nat → Bs → Int
  | 0, _, _ => -1
  | _ + 1, at0, [] => if at0 = 0 then -1 else (at0 : Int)
  | f + 1, at0, c :: r => if r.length < c.toNat then -1 else textsF f (at0 + (1 + c.toNat)) (r.drop c.toNat)
def textsS (d : Bs) : Int := textsF (d.length + 1) 0 d
theorem texts_fuel : ∀ (f g at0 : Nat) (d : Bs), d.length < f → d.length < g → textsF f at0 d = textsF g at0 d
  | 0, _, _, _, h, _ => by omega
  | _ + 1, 0, _, _, _, h => by omega
  | f + 1, g + 1, at0, [], _, _ => rfl
  | f + 1, g + 1, at0, c :: r, h1, h2 => by
    simp only [List.length_cons] at h1 h2
    simp only [textsF]
    by_cases h : r.length < c.toNat
    · rw [if_pos h, if_pos h]
    · rw [if_neg h, if_neg h]; exact texts_fuel f g _ _ (by rw [List.length_drop]; omega) (by rw [List.length_drop]; omega)

/-- the types of one block's bits -/
def pickL (b : Nat) : Nat → List Nat → List Nat
  | _, [] => []
  | k, x :: l => if x = 1 then (b * 256 + k) :: pickL b (k + 1) l else pickL b (k + 1) l
def blockL (b : Nat) (m : Bs) : List Nat := pickL b 0 (bitsL m)
/-- a set's types: what comes behind the blocks up to 'last' -/
def typesF : Nat → Int → List Nat → Bs → Option (List Nat)
  | 0, _, _, _ => none
  | _ + 1, _, out, [] => some out
  | f + 1, last, out, b :: r => match r with
    | [] => none
    | n :: m => if (b.toNat : Int) ≤ last ∨ n.toNat < 1 ∨ 32 < n.toNat ∨ m.length < n.toNat ∨ m.getD (n.toNat - 1) 0 = 0 then none
      else typesF f (b.toNat : Int) (out ++ blockL b.toNat (m.take n.toNat)) (m.drop n.toNat)
def typesS (d : Bs) : Option (List Nat) := match typesF (d.length + 1) (-1) [] d with
  | none => none
  | some l => if 0 ∈ l then none else some l
theorem types_fuel : ∀ (f g : Nat) (last : Int) (out : List Nat) (d : Bs), d.length < f → d.length < g → typesF f last out d = typesF g last out d
  | 0, _, _, _, _, h, _ => by omega
  | _ + 1, 0, _, _, _, _, h => by omega
  | f + 1, g + 1, last, out, [], _, _ => rfl
  | f + 1, g + 1, last, out, [b], _, _ => rfl
  | f + 1, g + 1, last, out, b :: n :: m, h1, h2 => by
    simp only [List.length_cons] at h1 h2
    simp only [typesF]
    split
    · rfl
    · exact types_fuel f g _ _ _ (by rw [List.length_drop]; omega) (by rw [List.length_drop]; omega)

def someS (d : Bs) : Int := if d = [] then -1 else (d.length : Int)
def takeS : Fld → Bs → Int
  | .num k, d => if d.length < k then -1 else (k : Int)
  | .ip4, d => if d.length < 4 then -1 else 4
  | .ip6, d => if d.length < 16 then -1 else 16
  | .host, d => hostS d
  | .text, d => textS d
  | .texts, d => textsS d
  | .tail, d => (d.length : Int)
  | .hexes, d => someS d
  | .b64, d => someS d
  | .kind, d => if d.length < 2 ∨ (d.getD 0 0 = 0 ∧ d.getD 1 0 = 0) then -1 else 2
  | .kinds, d => if typesS d = none then -1 else (d.length : Int)
  | .salt, d => textS d
  | .hash, d => if d = [] ∨ d.getD 0 0 = 0 then -1 else textS d
theorem textS_le (d : Bs) : textS d ≤ d.length ∧ -1 ≤ textS d := by
  cases d with
  | nil => simp [textS]
  | cons c r =>
    simp only [textS, List.length_cons]; split
    · omega
    · omega
theorem textsF_le : ∀ (f at0 : Nat) (d : Bs), textsF f at0 d ≤ at0 + d.length ∧ -1 ≤ textsF f at0 d
  | 0, at0, d => by simp only [textsF]; omega
  | f + 1, at0, [] => by simp only [textsF, List.length_nil]; split <;> omega
  | f + 1, at0, c :: r => by
    simp only [textsF]
    split
    · simp only [List.length_cons]; omega
    · have := textsF_le f (at0 + (1 + c.toNat)) (r.drop c.toNat)
      rw [List.length_drop] at this
      simp only [List.length_cons]; omega
theorem hostS_le (d : Bs) : hostS d ≤ d.length ∧ -1 ≤ hostS d := by
  unfold hostS
  cases h : (List.range 256).find? (fun k => (split (d.take k)).isSome) with
  | none => simp
  | some k =>
    refine ⟨?_, by simp only; omega⟩
    rcases Nat.lt_or_ge d.length k with hk | hk
    · have h1 := List.find?_some h
      have hm := List.mem_of_find?_eq_some h
      rw [List.mem_range] at hm
      have e : d.take k = d.take d.length := by rw [List.take_of_length_le (by omega), List.take_of_length_le (Nat.le_refl _)]
      rw [e] at h1
      have h2 := (List.find?_range_eq_some.1 h).2.2 d.length hk
      simp only [Bool.not_eq_true', h1] at h2
      exact absurd h2 (by simp)
    · simp only; omega
theorem takeS_le (f : Fld) (d : Bs) : takeS f d ≤ d.length ∧ -1 ≤ takeS f d := by
  cases f <;> simp only [takeS, someS]
  case host => exact hostS_le d
  case text => exact textS_le d
  case salt => exact textS_le d
  case texts => exact (by have := textsF_le (d.length + 1) 0 d; unfold textsS; omega)
  case hash =>
    split
    · omega
    · exact textS_le d
  all_goals first | omega | (split <;> omega)

def formS (t : Int) : Option (List Fld) :=
  if t = 1 then some [.ip4] else if t = 2 then some [.host] else if t = 5 then some [.host] else if t = 12 then some [.host] else if t = 39 then some [.host]
  else if t = 6 then some [.host, .host, .num 4, .num 4, .num 4, .num 4, .num 4] else if t = 13 then some [.text, .text] else if t = 15 then some [.num 2, .host]
  else if t = 16 then some [.texts] else if t = 28 then some [.ip6] else if t = 33 then some [.num 2, .num 2, .num 2, .host]
  else if t = 35 then some [.num 2, .num 2, .text, .text, .text, .host] else if t = 43 then some [.num 2, .num 1, .num 1, .hexes]
  else if t = 46 then some [.kind, .num 1, .num 1, .num 4, .num 4, .num 4, .num 2, .host, .b64] else if t = 47 then some [.host, .kinds]
  else if t = 48 then some [.num 2, .num 1, .num 1, .b64] else if t = 50 then some [.num 1, .num 1, .num 2, .salt, .hash, .kinds]
  else if t = 51 then some [.num 1, .num 1, .num 2, .salt] else if t = 257 then some [.num 1, .text, .tail] else none
def holdsB (t : Int) : Bool := decide (1 ≤ t) && decide (t ≤ 65535) && (t != 41) && (decide (t < 128) || decide (255 < t))
/-- the parts of the fields, and what stands behind them; none: a field's bytes are not right -/
def splitS : List Fld → Bs → Option (List Bs × Bs)
  | [], d => some ([], d)
  | x :: f, d => if takeS x d < 0 then none else (splitS f (d.drop (takeS x d).toNat)).map (fun p => (d.take (takeS x d).toNat :: p.1, p.2))
/-- what Check says: of the fields, and the parts where all is right -/
def partsS (t : Int) (d : Bs) : Option (List Bs) := match formS t with
  | none => some []
  | some f => match splitS f d with
    | some (p, []) => some p
    | _ => none
def checkS (t : Int) (d : Bs) : Int := if holdsB t = false then 6 else if 65535 < d.length then 7 else if partsS t d = none then 7 else 0
def isHost : Fld → Bool
  | .host => true
  | _ => false
def namesL : List Fld → List Bs → List Bs
  | x :: f, p :: l => if isHost x then p :: namesL f l else namesL f l
  | _, _ => []
end Go.Proofs.YtflijhodlimjoaaGreat.fld
