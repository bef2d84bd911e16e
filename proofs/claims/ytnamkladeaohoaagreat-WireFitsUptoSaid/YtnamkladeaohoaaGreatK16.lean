/- The reference's Compare: walk. How a text tells a name: plain. -/
import Derived.Test.YtnamkladeaohoaaGreatK15
import Derived.Test.YtnamkladeaohoaaGreatK14
import Derived.Deep.DeepCutAuto
namespace Go.Proofs.YtnamkladeaohoaaGreat.rcmp
open Go.RowKit Go.Proofs.YtnamkladeaohoaaGreat.kit Go.Proofs.YtnamkladeaohoaaGreat.check Go.Proofs.YtnamkladeaohoaaGreat.nspec Go.Proofs.YtnamkladeaohoaaGreat.rsplit Go.Proofs.YtnamkladeaohoaaGreat.low Go.Proofs.YtnamkladeaohoaaGreat.refA Go.Proofs.YtnamkladeaohoaaGreat.nameL Go.Proofs.YtnamkladeaohoaaGreat.ncmp Go.Proofs.YtnamkladeaohoaaGreat.refC

theorem less_iff : ∀ (u v : List UInt8), Op.bytesLess u v = decide (Lib.compareBytes u v = -1)
  | [], [] => by simp [Op.bytesLess, Lib.compareBytes]
  | _ :: _, [] => by simp [Op.bytesLess, Lib.compareBytes]
  | [], _ :: _ => by simp [Op.bytesLess, Lib.compareBytes]
  | a :: x, b :: y => by
    rw [Op.bytesLess, less_iff x y, Lib.compareBytes]
    by_cases h1 : a < b
    · simp [h1]
    · by_cases h2 : b < a
      · have : a ≠ b := by rintro rfl; exact h1 h2
        simp [h1, h2, this]
      · have : a = b := by
          rw [UInt8.lt_iff_toNat_lt] at h1 h2
          exact UInt8.toNat.inj (by omega)
        simp [this]
theorem cmp_eq0 : ∀ (u v : List UInt8), Lib.compareBytes u v = 0 ↔ u = v
  | [], [] => by simp [Lib.compareBytes]
  | _ :: _, [] => by simp [Lib.compareBytes]
  | [], _ :: _ => by simp [Lib.compareBytes]
  | a :: x, b :: y => by
    rw [Lib.compareBytes]
    by_cases h1 : a < b
    · have : a ≠ b := by rintro rfl; rw [UInt8.lt_iff_toNat_lt] at h1; omega
      simp [h1, this]
    · by_cases h2 : b < a
      · have : a ≠ b := by rintro rfl; exact h1 h2
        simp [h1, h2, this]
      · have : a = b := by
          rw [UInt8.lt_iff_toNat_lt] at h1 h2
          exact UInt8.toNat.inj (by omega)
        simp [this, cmp_eq0 x y]
theorem cmp_cases (u v : List UInt8) : (Lib.compareBytes u v = -1 ∧ Op.bytesLess u v = true) ∨ (Lib.compareBytes u v = 0 ∧ Op.bytesLess u v = false ∧ (u == v) = true) ∨ (Lib.compareBytes u v = 1 ∧ Op.bytesLess u v = false ∧ (u == v) = false) := by
  have h := cmp_ge u v
  have h2 := cmp_eq0 u v
  rw [less_iff]
  by_cases h3 : Lib.compareBytes u v = -1
  · exact .inl ⟨h3, by simp [h3]⟩
  · by_cases h4 : Lib.compareBytes u v = 0
    · exact .inr (.inl ⟨h4, by simp [h4], by simpa using h2.1 h4⟩)
    · exact .inr (.inr ⟨by omega, by simp [h3], by simpa using fun h5 => h4 (h2.2 h5)⟩)

theorem sv_cap {w : World} {v : Value} {base : Nat} {ls : List Bs} (h : SV w v base ls) : ∃ a c, v = .slice a ls.length c ∧ ls.length ≤ c ∧ Rd w a base ls := by
  rcases h with ⟨rfl, h⟩ | ⟨h0, g, c, h1, h2, h3, h4, h5, h6⟩
  · exact ⟨none, 0, h, Nat.le_refl _, Rd.nil _ _ _⟩
  · exact ⟨_, c, h1, h2, fun j x hx => ⟨g, 0, rfl, h4, h5, by rw [Nat.zero_add]; exact h6 j x hx⟩⟩
theorem take_rev {ls : List Bs} {i : Nat} {x : Bs} (h : ls[i]? = some x) : ((ls.take (i + 1)).map lowL).reverse = lowL x :: ((ls.take i).map lowL).reverse := by
  obtain ⟨h3, h4⟩ := List.getElem?_eq_some_iff.1 h
  rw [List.take_add_one, List.getElem?_eq_getElem h3, h4]; simp

theorem keep3 {wr w w' : World} {p1 p2 : Addr} {v1 v2 : Value} (h : w.cell? p1 = some v1 ∧ w.cell? p2 = some v2 ∧ Below wr.heap.size wr w) (hB : Below w.heap.size w w') (h1 : p1.block < wr.heap.size) (h2 : p2.block < wr.heap.size) : w'.cell? p1 = some v1 ∧ w'.cell? p2 = some v2 ∧ Below wr.heap.size wr w' :=
  ⟨(hB.cell (p := p1) (Nat.lt_of_lt_of_le h1 h.2.2.size)).trans h.1, (hB.cell (p := p2) (Nat.lt_of_lt_of_le h2 h.2.2.size)).trans h.2.1, h.2.2.trans (hB.mono h.2.2.size)⟩

set_option maxRecDepth 100000 in
set_option maxHeartbeats 4000000 in
theorem compare_yes (s t : ByteArray) (x y : List Bs) (w : World) (h1 : IsN s.data.toList x) (h2 : IsN t.data.toList y) :
    Calls Tryz.prog 201 #[.string s, .string t] w fun e w' => e = .returned (.int .i64 (cmpS s.data.toList t.data.toList)) ∧ Below w.heap.size w w' := by
  obtain ⟨R, HR⟩ : ∃ R, Hid (R = cmpS s.data.toList t.data.toList) := ⟨_, Lib.hid rfl⟩
  have hs : s.size ≤ 255 := by have := h1.2.2; rwa [size_len] at this
  have ht : t.size ≤ 255 := by have := h2.2.2; rwa [size_len] at this
  have hlx := split_len h1
  have hly := split_len h2
  have HC : Hid (cmpR ((x.take x.length).map lowL).reverse ((y.take y.length).map lowL).reverse = R) := Lib.hid (by rw [HR.out, cmpS_yes h1 h2, List.take_length, List.take_length])
  have L1 := Lib.hid h1; have L2 := Lib.hid h2; clear h1 h2
  go_enter Tryz.func201, Tryz.ntmps201
  go_wp2_with fail
  refine (split_yes s x _ L1.out).mono ?_
  rintro e w1 ⟨v1, rfl, hsv1, hB1⟩
  go_wp2_with fail
  refine (split_yes t y _ L2.out).mono ?_
  rintro e w2 ⟨v2, rfl, hsv2, hB2⟩
  have hB12 := hB1.trans (hB2.mono hB1.size)
  obtain ⟨a1, c1, rfl, hk1, hr1⟩ := sv_cap (hsv1.below hB2 rfl)
  obtain ⟨a2, c2, rfl, hk2, hr2⟩ := sv_cap hsv2
  have HR1 := Lib.hid hr1; have HR2 := Lib.hid hr2
  clear hr1 hr2 hsv1 hsv2 hB1 hB2
  go_wp2
  go_loopg [5, 7] (x.length + 1) (fun gas xv yv wr => ∃ (i j : Nat) (d1 d2 : Nat), xv = .slice a1 i d1 ∧ yv = .slice a2 j d2 ∧ i ≤ d1 ∧ j ≤ d2 ∧ i ≤ x.length ∧ j ≤ y.length ∧ gas = i + 1 ∧ Hid (cmpR ((x.take i).map lowL).reverse ((y.take j).map lowL).reverse = R) ∧ Below w2.heap.size w2 wr)
  case atStart => exact ⟨x.length, y.length, c1, c2, rfl, rfl, hk1, hk2, by omega, by omega, rfl, HC, Below.refl _ _⟩
  case round =>
    obtain ⟨i, j, d1, d2, rfl, rfl, hd1, hd2, hi, hj, hkg, HW, hB⟩ := hrel
    by_cases hi0 : i = 0
    · subst hi0
      by_cases hj0 : j = 0
      · subst hj0
        have HN := Lib.hid (cr_nil HW.out (by simp) (by simp))
        go_wp2
        go_ret
        exact ⟨ret_int (HN.out.trans HR.out), hB12.trans (hB.mono hB12.size)⟩
      · have HN := Lib.hid (cr_lt HW.out (by simp) (by simp; omega))
        have hj0' : ((j : Int) == 0) = false := by simpa using hj0
        clear hj0
        go_wp2
        go_ret
        exact ⟨ret_int (HN.out.trans HR.out), hB12.trans (hB.mono hB12.size)⟩
    · have hi0' : ((i : Int) == 0) = false := by simpa using hi0
      by_cases hj0 : j = 0
      · subst hj0
        have HN := Lib.hid (cr_gt HW.out (by simp) (by simp; omega))
        clear hi0
        go_wp2
        go_ret
        exact ⟨ret_int (HN.out.trans HR.out), hB12.trans (hB.mono hB12.size)⟩
      · have hj0' : ((j : Int) == 0) = false := by simpa using hj0
        obtain ⟨m, hm⟩ : ∃ m, i = m + 1 := ⟨i - 1, by omega⟩
        obtain ⟨n, hn⟩ : ∃ n, j = n + 1 := ⟨j - 1, by omega⟩
        clear hi0 hj0
        have HW2 : Hid (cmpR ((x.take (m + 1)).map lowL).reverse ((y.take (n + 1)).map lowL).reverse = R) := by rw [← hm, ← hn]; exact HW
        obtain ⟨p, hp⟩ : ∃ p, x[m]? = some p := ⟨_, List.getElem?_eq_getElem (by omega)⟩
        obtain ⟨q, hq⟩ : ∃ q, y[n]? = some q := ⟨_, List.getElem?_eq_getElem (by omega)⟩
        obtain ⟨g1, o1, rfl, _, hg1, hcl1⟩ := HR1.out _ p hp
        obtain ⟨g2, o2, rfl, _, hg2, hcl2⟩ := HR2.out _ q hq
        have hcx := (hB.cell (p := ⟨g1, o1 + m, none⟩) hg1).trans hcl1
        have hcy := (hB.cell (p := ⟨g2, o2 + n, none⟩) hg2).trans hcl2
        have HP := Lib.hid (take_rev hp); have HQ := Lib.hid (take_rev hq)
        have hpl := L1.out.2.1 p (List.mem_of_getElem? hp)
        have hql := L2.out.2.1 q (List.mem_of_getElem? hq)
        have lp := low_any ⟨p.toArray⟩
        have lq := low_any ⟨q.toArray⟩
        rw [mk_data, mk_size] at lp lq
        have LP := fun w => Lib.hid (lp w (by unfold maxLen; omega))
        have LQ := fun w => Lib.hid (lq w (by unfold maxLen; omega))
        have hg1' := Nat.lt_of_lt_of_le hg1 hB.size
        have hg2' := Nat.lt_of_lt_of_le hg2 hB.size
        clear hcl1 hcl2 hp hq hpl hql lp lq hg1 hg2
        have imx : (i : Int) - 1 = (m : Int) := by omega
        have imy : (j : Int) - 1 = (n : Int) := by omega
        have lmx : (m : Int) < (i : Int) := by omega
        have lmy : (n : Int) < (j : Int) := by omega
        have lnx : m ≤ d1 := by omega
        have wx1 : IntKind.i64.wrap (m : Int) = (m : Int) := IntWalk.i64_in _ (by omega)
        have wy1 : IntKind.i64.wrap (n : Int) = (n : Int) := IntWalk.i64_in _ (by omega)
        have zx : (0 : Int) ≤ (m : Int) := by omega
        have zy : (0 : Int) ≤ (n : Int) := by omega
        have lny : n ≤ d2 := by omega
        have H5 := Lib.hid hm; have H6 := Lib.hid hn; clear hm hn HW
        unfold strV at hcx hcy
        go_upto_region 11 with (fail)
        go_cut [9, 10] (fun s9 s10 wx => s9 = .string ⟨(lowL p).toArray⟩ ∧ s10 = .string ⟨(lowL q).toArray⟩ ∧ Below wr.heap.size wr wx)
        case first =>
          have hBd : Below wr.heap.size wr wr.drew := below_drewN (Below.refl _ _) 1
          go_region_held3 (fun w' => w'.cell? ⟨g1, o1 + m, none⟩ = some (.string ⟨p.toArray⟩) ∧ w'.cell? ⟨g2, o2 + n, none⟩ = some (.string ⟨q.toArray⟩) ∧ Below wr.heap.size wr w') (first | assumption | (refine ⟨?_, ?_, ?_⟩ <;> assumption))
            (first
              | (go_at_call_of 165 (Value.string ⟨p.toArray⟩); refine (LP _).out.mono ?_; rintro e w' ⟨rfl, hBz⟩; have hBz2 := keep3 (by assumption) hBz hg1' hg2'; clear hBz)
              | (go_at_call_of 165 (Value.string ⟨q.toArray⟩); refine (LQ _).out.mono ?_; rintro e w' ⟨rfl, hBz⟩; have hBz2 := keep3 (by assumption) hBz hg1' hg2'; clear hBz))
          all_goals (go_wp2_with fail; go_meet; exact ⟨rfl, rfl, (‹_ ∧ _ ∧ Below _ _ _›).2.2⟩)
        case rest =>
          obtain ⟨rfl, rfl, hBx⟩ := hcut
          have hBy := hB.trans (hBx.mono hB.size)
          have hcc := cmp_cases (lowL p) (lowL q)
          have e1 : lowL p = (⟨(lowL p).toArray⟩ : ByteArray).toList := by rw [Lib.toList_data]
          have e2 : lowL q = (⟨(lowL q).toArray⟩ : ByteArray).toList := by rw [Lib.toList_data]
          have hcd : ∀ c : Int, (Lib.compareBytes (⟨(lowL p).toArray⟩ : ByteArray).toList (⟨(lowL q).toArray⟩ : ByteArray).toList = c) → Lib.compareBytes (lowL p) (lowL q) = c := fun c h => by rw [e1, e2]; exact h
          rw [e1, e2] at hcc
          have HCD := Lib.hid hcd
          clear hcd e1 e2
          generalize (⟨(lowL p).toArray⟩ : ByteArray) = PP at *
          generalize (⟨(lowL q).toArray⟩ : ByteArray) = QQ at *
          rcases hcc with ⟨hc1, hc2⟩ | ⟨hc1, hc2, hc3⟩ | ⟨hc1, hc2, hc3⟩
          · have HC1 := Lib.hid (HCD.out _ hc1)
            clear hc1
            have HN := Lib.hid (cr_ne HW2.out HP.out HQ.out (by rw [HC1.out]; omega))
            go_wp2
            go_ret
            exact ⟨ret_int (by rw [← HR.out, ← HN.out, HC1.out]), hB12.trans (hBy.mono hB12.size)⟩
          · have HC1 := Lib.hid (HCD.out _ hc1)
            clear hc1
            have HN := Lib.hid (cr_eq HW2.out HP.out HQ.out HC1.out)
            go_wp2_with fail
            go_quiet (fail)
            have hBn : Below w2.heap.size w2 (wc.drewN nq) := below_drewN hBy nq
            go_wp2
            have hm := H5.out
            have hn := H6.out
            go_roundg (gk - 1)
            case rel => exact ⟨m, n, d1, d2, rfl, rfl, by omega, by omega, by omega, by omega, by omega, HN, hBn⟩
            case measure => omega
          · have HC1 := Lib.hid (HCD.out _ hc1)
            clear hc1
            have HN := Lib.hid (cr_ne HW2.out HP.out HQ.out (by rw [HC1.out]; omega))
            go_wp2
            go_ret
            exact ⟨ret_int (by rw [← HR.out, ← HN.out, HC1.out]), hB12.trans (hBy.mono hB12.size)⟩

set_option maxRecDepth 100000 in
set_option maxHeartbeats 1000000 in
theorem compare_no (s t : ByteArray) (w : World) (hs : s.size ≤ 1099511627776) (ht : t.size ≤ 1099511627776) (h : split s.data.toList = none ∨ split t.data.toList = none) :
    Calls Tryz.prog 201 #[.string s, .string t] w fun e w' => e = .returned (.int .i64 0) ∧ Below w.heap.size w w' := by
  have hcase : isB s = false ∨ (isB s = true ∧ isB t = false) := by
    rcases isB_or s with ⟨x, h1⟩ | h1
    · rcases h with h | h
      · rw [split_iff.2 h1] at h; simp at h
      · exact .inr ⟨isB_yes h1, isB_no h⟩
    · exact .inl (isB_no h1)
  have HH := Lib.hid hcase
  clear h hcase
  go_enter Tryz.func201, Tryz.ntmps201
  go_wp2_with fail
  refine (split_gen s _ hs).mono ?_
  rintro e w1 ⟨a1, n1, c1, rfl, hB1⟩
  go_wp2_with fail
  refine (split_gen t _ ht).mono ?_
  rintro e w2 ⟨a2, n2, c2, rfl, hB2⟩
  have hB12 := hB1.trans (hB2.mono hB1.size)
  rcases HH.out with h1 | ⟨h1, h2⟩
  · rw [h1]
    clear h1
    obtain ⟨b, hb⟩ : ∃ b, isB t = b := ⟨_, rfl⟩
    rw [hb]
    cases b
    all_goals clear hb
    · go_wp2
      go_ret
      exact ⟨rfl, hB12⟩
    · go_wp2
      go_ret
      exact ⟨rfl, hB12⟩
  · rw [h1, h2]
    clear h1 h2
    go_wp2
    go_ret
    exact ⟨rfl, hB12⟩
theorem compare_any (s t : ByteArray) (w : World) (hs : s.size ≤ 1099511627776) (ht : t.size ≤ 1099511627776) :
    Calls Tryz.prog 201 #[.string s, .string t] w fun e w' => e = .returned (.int .i64 (cmpS s.data.toList t.data.toList)) ∧ Below w.heap.size w w' := by
  rcases isB_or s with ⟨x, h1⟩ | h1
  · rcases isB_or t with ⟨y, h2⟩ | h2
    · exact compare_yes s t x y w h1 h2
    · rw [cmpS_no2 h2]; exact compare_no s t w hs ht (.inr h2)
  · rw [cmpS_no1 h1]; exact compare_no s t w hs ht (.inl h1)
end Go.Proofs.YtnamkladeaohoaaGreat.rcmp
namespace Go.Proofs.YtnamkladeaohoaaGreat.readS
open Go.Proofs.YtnamkladeaohoaaGreat.kit Go.Proofs.YtnamkladeaohoaaGreat.nspec Go.Proofs.YtnamkladeaohoaaGreat.rput Go.Proofs.YtnamkladeaohoaaGreat.rsplit

def digB (c : UInt8) : Bool := decide (48 ≤ c.toNat) && decide (c.toNat ≤ 57)
theorem digB_yes {c : UInt8} (h : 48 ≤ c.toNat ∧ c.toNat ≤ 57) : digB c = true := by unfold digB; simp [h.1, h.2]
theorem digB_no {c : UInt8} (h : c.toNat < 48 ∨ 57 < c.toNat) : digB c = false := by
  unfold digB; rw [Bool.and_eq_false_iff, decide_eq_false_iff_not, decide_eq_false_iff_not]; omega
/-- what stands behind a backslash: the byte, and how many bytes it takes with it -/
def escS : Bs → Option (UInt8 × Nat)
  | [] => none
  | d :: r => if digB d = false then some (d, 2) else match r with
    | a :: b :: _ => if digB a && digB b then (if 255 < (d.toNat - 48) * 100 + (a.toNat - 48) * 10 + (b.toNat - 48) then none else some (UInt8.ofNat ((d.toNat - 48) * 100 + (a.toNat - 48) * 10 + (b.toNat - 48)), 4)) else none
    | _ => none
def pieceS : Bs → Option (UInt8 × Nat)
  | [] => none
  | c :: r => if c.toNat = 92 then escS r else some (c, 1)
theorem piece_len {l : Bs} {b : UInt8} {n : Nat} (h : pieceS l = some (b, n)) : 1 ≤ n ∧ n ≤ l.length := by
  unfold pieceS at h
  split at h
  · simp at h
  · rename_i c r
    split at h
    · unfold escS at h
      split at h
      · simp at h
      · rename_i d t
        split at h
        · injection h with h; injection h with h1 h2; subst h2; simp
        · split at h
          · split at h
            · split at h
              · simp at h
              · injection h with h; injection h with h1 h2; subst h2; simp
            · simp at h
          · simp at h
    · injection h with h; injection h with h1 h2; subst h2; simp

/-- the labels that are told, and the bytes of the last one; or the place and what is wrong -/
def rdF : Nat → List Bs → Bs → Nat → Nat → Bs → Except (Nat × Int) (List Bs × Bs)
  | 0, l, now, _, _, _ => .ok (l, now)
  | _ + 1, l, now, _, _, [] => .ok (l, now)
  | f + 1, l, now, first, k, c :: r =>
    if c.toNat = 46 then (if now = [] then .error (k, 2) else rdF f (l ++ [now]) [] (k + 1) (k + 1) r)
    else match pieceS (c :: r) with
      | none => .error (k, 2)
      | some (b, n) => if 63 ≤ now.length then .error (first, 3) else rdF f l (now ++ [b]) first (k + n) ((c :: r).drop n)
theorem rd_fuel : ∀ (f g : Nat) (l : List Bs) (now : Bs) (first k : Nat) (t : Bs), t.length ≤ f → t.length ≤ g → rdF f l now first k t = rdF g l now first k t
  | 0, 0, _, _, _, _, _, _, _ => rfl
  | 0, g + 1, l, now, first, k, t, h, _ => by
    have : t = [] := List.eq_nil_of_length_eq_zero (by omega)
    subst this; rfl
  | f + 1, 0, l, now, first, k, t, _, h => by
    have : t = [] := List.eq_nil_of_length_eq_zero (by omega)
    subst this; rfl
  | f + 1, g + 1, l, now, first, k, [], _, _ => rfl
  | f + 1, g + 1, l, now, first, k, c :: r, h1, h2 => by
    simp only [List.length_cons] at h1 h2
    simp only [rdF]
    by_cases hc : c.toNat = 46
    · rw [if_pos hc, if_pos hc, rd_fuel f g _ _ _ _ r (by omega) (by omega)]
    · rw [if_neg hc, if_neg hc]
      cases hp : pieceS (c :: r) with
      | none => rfl
      | some p =>
        obtain ⟨b, n⟩ := p
        have := piece_len hp
        simp only
        rw [rd_fuel f g _ _ _ _ _ (by rw [List.length_drop, List.length_cons]; omega) (by rw [List.length_drop, List.length_cons]; omega)]
def rd (l : List Bs) (now : Bs) (first k : Nat) (t : Bs) : Except (Nat × Int) (List Bs × Bs) := rdF t.length l now first k t
theorem rd_nil (l : List Bs) (now : Bs) (first k : Nat) : rd l now first k [] = .ok (l, now) := rfl
theorem rd_dot {l : List Bs} {now : Bs} {first k : Nat} {c : UInt8} {r : Bs} (hc : c.toNat = 46) (hn : now ≠ []) : rd l now first k (c :: r) = rd (l ++ [now]) [] (k + 1) (k + 1) r := by
  unfold rd; rw [List.length_cons, rdF, if_pos hc, if_neg hn]
theorem rd_dot_no {l : List Bs} {now : Bs} {first k : Nat} {c : UInt8} {r : Bs} (hc : c.toNat = 46) (hn : now = []) : rd l now first k (c :: r) = .error (k, 2) := by
  unfold rd; rw [List.length_cons, rdF, if_pos hc, if_pos hn]
theorem rd_bad {l : List Bs} {now : Bs} {first k : Nat} {c : UInt8} {r : Bs} (hc : c.toNat ≠ 46) (hp : pieceS (c :: r) = none) : rd l now first k (c :: r) = .error (k, 2) := by
  unfold rd; rw [List.length_cons, rdF, if_neg hc, hp]
theorem rd_full {l : List Bs} {now : Bs} {first k : Nat} {c : UInt8} {r : Bs} {b : UInt8} {n : Nat} (hc : c.toNat ≠ 46) (hp : pieceS (c :: r) = some (b, n)) (hn : 63 ≤ now.length) : rd l now first k (c :: r) = .error (first, 3) := by
  unfold rd; rw [List.length_cons, rdF, if_neg hc, hp]; simp only; rw [if_pos hn]
theorem rd_go {l : List Bs} {now : Bs} {first k : Nat} {c : UInt8} {r : Bs} {b : UInt8} {n : Nat} (hc : c.toNat ≠ 46) (hp : pieceS (c :: r) = some (b, n)) (hn : now.length < 63) : rd l now first k (c :: r) = rd l (now ++ [b]) first (k + n) ((c :: r).drop n) := by
  have hl := piece_len hp
  unfold rd; rw [List.length_cons, rdF, if_neg hc, hp]; simp only
  rw [if_neg (by omega)]
  exact rd_fuel _ _ _ _ _ _ _ (by rw [List.length_drop, List.length_cons]; omega) (Nat.le_refl _)

def endL (base : List Bs) (l : List Bs) (now : Bs) : List Bs := if now = [] then l else l ++ [now] ++ base
def finS (base : List Bs) (l : List Bs) (now : Bs) : Bs × Int × Int := if 254 < room (endL base l now) then ([], 0, 4) else (put (endL base l now), 0, 0)
def resS (base : List Bs) : Except (Nat × Int) (List Bs × Bs) → Bs × Int × Int
  | .error (k, e) => ([], (k : Int), e)
  | .ok (l, now) => finS base l now
def readS (text origin : Bs) : Bs × Int × Int := match split origin with
  | none => ([], 0, 1)
  | some base => if text = [] then ([], 0, 2) else if text = [64] then (origin, 0, 0) else if text = [46] then ([0], 0, 0) else resS base (rd [] [] 0 0 text)
def Ret3 (r : Bs × Int × Int) : Ending := .returned (.tuple #[.string ⟨r.1.toArray⟩, .int .i64 r.2.1, .int .i64 r.2.2])
end Go.Proofs.YtnamkladeaohoaaGreat.readS
