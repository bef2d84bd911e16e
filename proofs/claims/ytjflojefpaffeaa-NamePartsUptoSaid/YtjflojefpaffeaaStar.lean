/- Star, IsStar of name and of the reference; sameTexts: walks. -/
import Derived.Test.YtjflojefpaffeaaJoin
import Derived.Test.YtjflojefpaffeaaRefC
import Derived.Deep.QuietTactic
import Derived.BigQuiet
namespace Go.Proofs.Ytjflojefpaffeaa.star
open Go.RowKit Go.Proofs.Ytjflojefpaffeaa.kit Go.Proofs.Ytjflojefpaffeaa.check Go.Proofs.Ytjflojefpaffeaa.nspec Go.Proofs.Ytjflojefpaffeaa.rsplit Go.Proofs.Ytjflojefpaffeaa.rput Go.Proofs.Ytjflojefpaffeaa.refA Go.Proofs.Ytjflojefpaffeaa.refC Go.Proofs.Ytjflojefpaffeaa.rcmp Go.Proofs.Ytjflojefpaffeaa.join

def starS (l : Bs) : Bs := if (split l).isSome && decide (l.length ≤ 253) then 1 :: 42 :: l else []
theorem starS_no {l : Bs} (h : split l = none) : starS l = [] := by unfold starS; rw [h]; rfl
theorem starS_long {l : Bs} (h : 253 < l.length) : starS l = [] := by
  unfold starS; rw [decide_eq_false (by omega), Bool.and_false]; rfl
theorem starS_yes {l : Bs} {ls : List Bs} (h : IsN l ls) (hl : l.length ≤ 253) : starS l = 1 :: 42 :: l := by
  unfold starS; rw [split_iff.2 h, decide_eq_true hl]; rfl

set_option maxRecDepth 100000 in
theorem nstar_any (s : ByteArray) (w : World) (hs : s.size ≤ 1099511627776) :
    Calls Try.prog 63 #[.string s] w fun e w' => e = .returned (.string ⟨(starS s.data.toList).toArray⟩) ∧ Below w.heap.size w w' := by
  rcases isB_or s with ⟨ls, h⟩ | h
  · have HK := Lib.hid (chk_yes h)
    by_cases hl : 253 < (s.size : Int)
    · rw [starS_long (by rw [size_len]; omega)]
      clear h
      go_enter Try.func63, Try.ntmps63
      go_wp2_with fail
      refine (check_any s _ hs).mono ?_
      rintro e w1 ⟨rfl, hB1⟩
      rw [HK.out]
      go_wp2
      go_ret
      exact ⟨rfl, hB1⟩
    · rw [starS_yes h (by rw [size_len]; omega)]
      have hE : (⟨#[1, 42]⟩ : ByteArray) ++ s = ⟨(1 :: 42 :: s.data.toList).toArray⟩ := by apply ba_ext; simp
      have HE := Lib.hid hE
      clear h hE
      go_enter Try.func63, Try.ntmps63
      go_wp2_with fail
      refine (check_any s _ hs).mono ?_
      rintro e w1 ⟨rfl, hB1⟩
      rw [HK.out]
      go_wp2
      go_ret
      exact ⟨ret_str HE.out, hB1⟩
  · rw [starS_no h]
    have HK := Lib.hid (chk_no h)
    clear h
    go_enter Try.func63, Try.ntmps63
    go_wp2_with fail
    refine (check_any s _ hs).mono ?_
    rintro e w1 ⟨rfl, hB1⟩
    rw [HK.out]
    go_wp2
    go_ret
    exact ⟨rfl, hB1⟩

set_option maxRecDepth 100000 in
set_option maxHeartbeats 1000000 in
theorem star_any (s : ByteArray) (w : World) (hs : s.size ≤ 1099511627776) :
    Calls Try.prog 64 #[.string s] w fun e w' => e = .returned (.string ⟨(starS s.data.toList).toArray⟩) ∧ Below w.heap.size w w' := by
  rcases isB_or s with ⟨ls, h⟩ | h
  · by_cases hl : 253 < (s.size : Int)
    · rw [starS_long (by rw [size_len]; omega)]
      have L := Lib.hid h
      clear h
      go_enter Try.func64, Try.ntmps64
      go_wp2_with fail
      refine (split_yes s ls _ L.out).mono ?_
      rintro e w1 ⟨v1, rfl, hsv1, hB1⟩
      go_wp2
      go_ret
      exact ⟨rfl, hB1⟩
    · rw [starS_yes h (by rw [size_len]; omega)]
      obtain ⟨i0, hi, hz0, hz1, hz2⟩ := info_parts infoStr
      have hll := split_len h
      have hrm := isN_room h
      have hE : put ([42] :: ls) = 1 :: 42 :: s.data.toList := by rw [put, h.1]; rfl
      have HE := Lib.hid hE
      have L := Lib.hid h
      clear h hE
      go_enter Try.func64, Try.ntmps64
      go_wp2_with fail
      refine (split_yes s ls _ L.out).mono ?_
      rintro e w1 ⟨v1, rfl, hsv1, hB1⟩
      obtain ⟨A3, C3, rfl, hsrc⟩ : ∃ A3 C3, v1 = .slice A3 ls.length C3 ∧ ((A3 = none ∧ ls.length = 0 ∧ C3 = 0) ∨ ∃ ad, A3 = some ad ∧ ∀ (j : Nat) (u : Value), (ls.map strV)[j]? = some u → (w1.alloc (.cells #[.string ⟨#[42]⟩] 9)).cell? (ad.add j) = some u) := by
        have hBa := (Below.refl w1.heap.size w1).alloc (Nat.le_refl _) (.cells #[.string ⟨#[42]⟩] 9)
        rcases hsv1.below hBa rfl with ⟨rfl, rfl⟩ | ⟨_, g, c, rfl, _, _, _, _, h5⟩
        · exact ⟨none, 0, rfl, .inl ⟨rfl, rfl, rfl⟩⟩
        · exact ⟨_, c, rfl, .inr ⟨_, rfl, by have := SV.src ls.length h5; rwa [List.take_length] at this⟩⟩
      have HSRC := Lib.hid hsrc; clear hsrc hsv1
      have hrow : (w1.alloc (.cells #[.string ⟨#[42]⟩] 9)).ownsRow w1.heap.size 9 1 (.slice (some ⟨w1.heap.size, 0, none⟩) 1 1) 1 [.string ⟨#[42]⟩] :=
        ⟨rfl, .inr ⟨w1.heap.size, 1, #[.string ⟨#[42]⟩], rfl, Nat.le_refl _, Array.getElem?_push_size, Nat.le_refl _, by unfold maxLen; omega, rfl, rfl⟩⟩
      have HROW := Lib.hid hrow; clear hrow
      go_wp2_with (at_builtin; refine wpList_append_src rfl (.tmp 17) (.tmp 18) 55 rfl w1.heap.size 9 i0 (.string ByteArray.empty) 1 16 Try.underlying55 hi hz0 hz1 hz2 rfl (by decide) _ 1 _ rfl HROW.out A3 ls.length C3 (ls.map strV) rfl ?b1 HSRC.out (one_str _) ?b3 ?b4 ?b5 ?_)
      case b1 => simp
      case b3 => unfold maxLen; omega
      case b4 => omega
      case b5 => simp
      intro v6 w6 hown6 hgr6
      have hB6 : Below w1.heap.size w1 w6 := below_append' ((Below.refl w1.heap.size w1).alloc (Nat.le_refl _) _) (by simp) HROW.out hgr6
      have hlen : ([42] :: ls : List Bs).length = 1 + ls.length := by simp; omega
      have hown7 : w6.ownsRow w1.heap.size 9 1 v6 ([42] :: ls : List Bs).length (([42] :: ls : List Bs).map strV) := by rw [hlen]; exact hown6
      obtain ⟨a6, c6, rfl, hrd⟩ := Rd.of_own hown7
      have HRD := Lib.hid (hrd.mono (Nat.zero_le _))
      clear hown6 hown7 hgr6 hrd hlen
      go_wp2_with fail
      refine (put_n _ _ _ ([42] :: ls) _ (by simp) HRD.out (by simp [room] at hrm ⊢; omega) (by simp; omega)).mono ?_
      rintro e w7 ⟨rfl, hB7⟩
      rw [HE.out]
      go_wp2
      go_ret
      exact ⟨rfl, hB1.trans ((hB6.trans (hB7.mono hB6.size)).mono hB1.size)⟩
  · rw [starS_no h]
    go_enter Try.func64, Try.ntmps64
    go_wp2_with fail
    refine (split_no s _ hs h).mono ?_
    rintro e w1 ⟨a1, n1, c1, rfl, hB1⟩
    clear h
    go_wp2
    go_ret
    exact ⟨rfl, hB1⟩

def isStarS (l : Bs) : Bool := match split l with | some (x :: _) => decide (x = [42]) | _ => false
theorem isStar_no {l : Bs} (h : split l = none) : isStarS l = false := by unfold isStarS; rw [h]
theorem isStar_root {l : Bs} (h : IsN l []) : isStarS l = false := by unfold isStarS; rw [split_iff.2 h]
theorem isStar_yes {l x : Bs} {r : List Bs} (h : IsN l (x :: r)) : isStarS l = decide (x = [42]) := by unfold isStarS; rw [split_iff.2 h]
theorem pre_star {l : Bs} {ls : List Bs} (h : IsN l ls) : Lib.hasPrefix l [1, 42] = isStarS l := by
  cases ls with
  | nil => rw [isStar_root h, h.1]; rfl
  | cons x r =>
    rw [isStar_yes h, h.1]
    obtain ⟨⟨h1, h2⟩, _⟩ := okL_cons.1 h.2.1
    unfold Lib.hasPrefix
    cases x with
    | nil => simp at h1
    | cons b y =>
      simp only [put, List.cons_append, List.isPrefixOf, Bool.and_true]
      by_cases hy : y = []
      · subst hy
        simp
        rw [Bool.eq_iff_iff, beq_iff_eq, decide_eq_true_eq]; exact eq_comm
      · have hne : ((1 : UInt8) == UInt8.ofNat (b :: y).length) = false := by
          have hyl : 1 ≤ y.length := by
            cases y with
            | nil => exact absurd rfl hy
            | cons p q => simp
          simp only [beq_eq_false_iff_ne]
          intro e
          have := congrArg UInt8.toNat e
          rw [nat_of (by omega)] at this
          simp at this
          exact hy this
        rw [hne, Bool.false_and]
        simp [hy]

set_option maxRecDepth 100000 in
theorem nisStar_any (s : ByteArray) (w : World) (hs : s.size ≤ 1099511627776) :
    Calls Try.prog 65 #[.string s] w fun e w' => e = .returned (.bool (isStarS s.data.toList)) ∧ Below w.heap.size w w' := by
  rcases isB_or s with ⟨ls, h⟩ | h
  · have HK := Lib.hid (chk_yes h)
    have HP := Lib.hid (pre_star h)
    clear h
    go_enter Try.func65, Try.ntmps65
    go_wp2_with fail
    refine (check_any s _ hs).mono ?_
    rintro e w1 ⟨rfl, hB1⟩
    rw [HK.out]
    go_wp2_with fail
    refine (Try.strings_HasPrefix s ⟨#[1, 42]⟩ _).mono ?_
    rintro e w2 ⟨rfl, rfl⟩
    rw [show Lib.hasPrefix s.data.toList (⟨#[1, 42]⟩ : ByteArray).data.toList = isStarS s.data.toList from HP.out]
    go_wp2
    go_ret
    exact ⟨rfl, hB1⟩
  · have HK := Lib.hid (chk_no h)
    rw [isStar_no h]
    clear h
    go_enter Try.func65, Try.ntmps65
    go_wp2_with fail
    refine (check_any s _ hs).mono ?_
    rintro e w1 ⟨rfl, hB1⟩
    rw [HK.out]
    go_wp2
    go_ret
    exact ⟨rfl, hB1⟩

set_option maxRecDepth 100000 in
theorem isStar_any (s : ByteArray) (w : World) (hs : s.size ≤ 1099511627776) :
    Calls Try.prog 66 #[.string s] w fun e w' => e = .returned (.bool (isStarS s.data.toList)) ∧ Below w.heap.size w w' := by
  rcases isB_or s with ⟨ls, h⟩ | h
  · have L := Lib.hid h
    cases ls with
    | nil =>
      rw [isStar_root h]
      clear h
      go_enter Try.func66, Try.ntmps66
      go_wp2_with fail
      refine (split_yes s [] _ L.out).mono ?_
      rintro e w1 ⟨v1, rfl, hsv1, hB1⟩
      obtain ⟨a1, c1, rfl, _⟩ := hsv1.rd
      clear hsv1
      go_wp2
      go_ret
      exact ⟨rfl, hB1⟩
    | cons x r =>
      rw [isStar_yes h]
      obtain ⟨n, hn⟩ : ∃ n, (x :: r).length = n + 1 := ⟨r.length, rfl⟩
      have hHX : (x :: r)[0]? = some x := rfl
      have hnl := split_len h
      rw [hn] at hnl
      have hpos : (0 : Int) < ((n + 1 : Nat) : Int) := by omega
      have HN := Lib.hid hn
      clear h hn
      go_enter Try.func66, Try.ntmps66
      go_wp2_with fail
      refine (split_yes s (x :: r) _ L.out).mono ?_
      rintro e w1 ⟨v1, rfl, hsv1, hB1⟩
      obtain ⟨a1, c1, rfl, hrd⟩ := hsv1.rd
      obtain ⟨g1, o1, rfl, _, hg1, hcl1⟩ := hrd 0 x hHX
      rw [HN.out]
      clear hsv1 hrd hHX
      unfold strV at hcl1
      rw [Nat.add_zero] at hcl1
      go_wp2
      go_ret
      refine ⟨ret_bool ?_, hB1⟩
      first | exact beq_dec x [42] | (rw [← beq_dec x [42]]; simp [Lib.toList_data])
  · rw [isStar_no h]
    go_enter Try.func66, Try.ntmps66
    go_wp2_with fail
    refine (split_no s _ hs h).mono ?_
    rintro e w1 ⟨a1, n1, c1, rfl, hB1⟩
    clear h
    go_wp2
    go_ret
    exact ⟨rfl, hB1⟩

theorem st_go {x y : List Bs} {k : Nat} {p q : Bs} {R : Bool} (h : decide (x.drop k = y.drop k) = R) (hp : x[k]? = some p) (hq : y[k]? = some q) (e : p = q) : decide (x.drop (k + 1) = y.drop (k + 1)) = R := by
  obtain ⟨h1, h2⟩ := List.getElem?_eq_some_iff.1 hp
  obtain ⟨h3, h4⟩ := List.getElem?_eq_some_iff.1 hq
  rw [List.drop_eq_getElem_cons h1, List.drop_eq_getElem_cons h3, h2, h4, e] at h
  rw [← h]; simp
theorem st_ne {x y : List Bs} {k : Nat} {p q : Bs} {R : Bool} (h : decide (x.drop k = y.drop k) = R) (hp : x[k]? = some p) (hq : y[k]? = some q) (e : p ≠ q) : false = R := by
  obtain ⟨h1, h2⟩ := List.getElem?_eq_some_iff.1 hp
  obtain ⟨h3, h4⟩ := List.getElem?_eq_some_iff.1 hq
  rw [List.drop_eq_getElem_cons h1, List.drop_eq_getElem_cons h3, h2, h4] at h
  rw [← h]; simp [e]
set_option maxRecDepth 100000 in
set_option maxHeartbeats 1000000 in
theorem same_any (a b : Option Addr) (n m c d : Nat) (x y : List Bs) (w : World) (hn : n = x.length) (hm : m = y.length) (hx : Rd w a 0 x) (hy : Rd w b 0 y) (hl : n ≤ 1099511627776) (hl2 : m ≤ 1099511627776) :
    Calls Try.prog 54 #[.slice a n c, .slice b m d] w fun e w' => e = .returned (.bool (decide (x = y))) ∧ Below w.heap.size w w' := by
  obtain ⟨R, HR⟩ : ∃ R, Hid (decide (x = y) = R) := ⟨_, Lib.hid rfl⟩
  rw [HR.out]
  by_cases hnm : n = m
  · have HC : Hid (decide (x.drop 0 = y.drop 0) = R) := HR
    have HN := Lib.hid hn; have HM := Lib.hid hm; have HX := Lib.hid hx; have HY := Lib.hid hy
    subst hnm
    clear hn hm hx hy hl2
    go_enter Try.func54, Try.ntmps54
    go_wp2
    go_loopg [13] (n + 1) (fun gas kv wr => ∃ (k : Nat), kv = .int .i64 k ∧ k ≤ n ∧ k + gas = n + 1 ∧ Hid (decide (x.drop k = y.drop k) = R) ∧ Below w.heap.size w wr)
    case atStart => exact ⟨0, rfl, by omega, by omega, HC, Below.refl _ _⟩
    case round =>
      obtain ⟨k, rfl, hk, hkg, HW, hB⟩ := hrel
      have HK := Lib.hid hkg; clear hkg
      by_cases hlt : k < n
      · obtain ⟨p, hp⟩ : ∃ p, x[k]? = some p := ⟨_, List.getElem?_eq_getElem (by have := HN.out; omega)⟩
        obtain ⟨q, hq⟩ : ∃ q, y[k]? = some q := ⟨_, List.getElem?_eq_getElem (by have := HM.out; omega)⟩
        obtain ⟨g1, o1, rfl, _, hg1, hcl1⟩ := HX.out _ p hp
        obtain ⟨g2, o2, rfl, _, hg2, hcl2⟩ := HY.out _ q hq
        have hcx := (hB.cell (p := ⟨g1, o1 + k, none⟩) hg1).trans hcl1
        have hcy := (hB.cell (p := ⟨g2, o2 + k, none⟩) hg2).trans hcl2
        have HP := Lib.hid hp; have HQ := Lib.hid hq
        clear hp hq hcl1 hcl2
        unfold strV at hcx hcy
        obtain ⟨P, hP⟩ : ∃ P : ByteArray, ⟨p.toArray⟩ = P := ⟨_, rfl⟩
        obtain ⟨Q, hQ⟩ : ∃ Q : ByteArray, ⟨q.toArray⟩ = Q := ⟨_, rfl⟩
        have hPp : p = P.data.toList := by rw [← hP]
        have hQq : q = Q.data.toList := by rw [← hQ]
        rw [hP] at hcx
        rw [hQ] at hcy
        subst hPp
        subst hQq
        clear hP hQ
        have zk : (0 : Int) ≤ (k : Int) := by omega
        have zl : (k : Int) < (n : Int) := by omega
        by_cases he : P.data.toList = Q.data.toList
        · have HG := Lib.hid (st_go HW.out HP.out HQ.out he)
          have he' : (P.toList == Q.toList) = true := by rw [Lib.toList_data, Lib.toList_data]; simpa using he
          clear he
          go_wp2_with fail
          go_quiet (fail)
          have hBn : Below w.heap.size w (wr.drewN nq) := below_drewN hB nq
          go_wp2
          have hkg := HK.out
          go_roundg (gk - 1)
          case rel => exact ⟨k + 1, by go_num, by omega, by omega, HG, hBn⟩
          case measure => omega
        · have HG := Lib.hid (st_ne HW.out HP.out HQ.out he)
          have he' : (P.toList == Q.toList) = false := by rw [Lib.toList_data, Lib.toList_data]; simpa using he
          clear he
          go_wp2_with fail
          go_quiet (fail)
          have hBn : Below w.heap.size w (wr.drewN nq) := below_drewN hB nq
          go_wp2
          go_ret
          exact ⟨ret_bool HG.out, hBn⟩
      · have HE : Hid (true = R) := Lib.hid (by
          rw [← HW.out, List.drop_eq_nil_iff.2 (by have := HN.out; omega), List.drop_eq_nil_iff.2 (by have := HM.out; omega)]; simp)
        go_wp2
        go_ret
        exact ⟨ret_bool HE.out, hB⟩
  · have HE : Hid (false = R) := Lib.hid (by
      rw [← HR.out]; symm; simp only [decide_eq_false_iff_not]; rintro rfl; exact hnm (hn.trans hm.symm))
    have hne : ((n : Int) == (m : Int)) = false := by simp; omega
    clear hn hm hnm
    go_enter Try.func54, Try.ntmps54
    go_wp2
    go_ret
    exact ⟨ret_bool HE.out, Below.refl _ _⟩
end Go.Proofs.Ytjflojefpaffeaa.star
