/- Star, IsStar of name and of the reference; sameTexts: walks. -/
import Derived.Test.YthblaldkpjilhaaJoin
import Derived.Test.YthblaldkpjilhaaRefC
import Derived.Deep.QuietTactic
import Derived.BigQuiet
namespace Go.Proofs.Ythblaldkpjilhaa.star
open Go.RowKit Go.Proofs.Ythblaldkpjilhaa.kit Go.Proofs.Ythblaldkpjilhaa.check Go.Proofs.Ythblaldkpjilhaa.nspec Go.Proofs.Ythblaldkpjilhaa.rsplit Go.Proofs.Ythblaldkpjilhaa.rput Go.Proofs.Ythblaldkpjilhaa.refA Go.Proofs.Ythblaldkpjilhaa.refC Go.Proofs.Ythblaldkpjilhaa.rcmp Go.Proofs.Ythblaldkpjilhaa.join

def starS (l : Bs) : Bs := if (split l).isSome && decide (l.length ≤ 253) then 1 :: 42 :: l else []
theorem starS_no {l : Bs} (h : split l = none) : starS l = [] := by unfold starS; rw [h]; rfl
theorem starS_long {l : Bs} (h : 253 < l.length) : starS l = [] := by
  unfold starS; rw [decide_eq_false (by omega), Bool.and_false]; rfl
theorem starS_yes {l : Bs} {ls : List Bs} (h : IsN l ls) (hl : l.length ≤ 253) : starS l = 1 :: 42 :: l := by
  unfold starS; rw [split_iff.2 h, decide_eq_true hl]; rfl

def isStarS (l : Bs) : Bool := match split l with | some (x :: _) => decide (x = [42]) | _ => false
theorem isStar_no {l : Bs} (h : split l = none) : isStarS l = false := by unfold isStarS; rw [h]
theorem isStar_root {l : Bs} (h : IsN l []) : isStarS l = false := by unfold isStarS; rw [split_iff.2 h]
theorem isStar_yes {l x : Bs} {r : List Bs} (h : IsN l (x :: r)) : isStarS l = decide (x = [42]) := by unfold isStarS; rw [split_iff.2 h]
theorem pre_star {l : Bs} {ls : List Bs} (h : IsN l ls) : Lib.hasPrefix l [1, 42] = isStarS l := by
  cases ls with
  | nil => rw [isStar_root h, h.1]; rfl
  | cons x r =>
    rw [isStar_yes h, h.1]
    obtain ⟨⟨h1, h2⟩, _⟩ := okL_cons.1 h.2.1
    unfold Lib.hasPrefix
    cases x with
    | nil => simp at h1
    | cons b y =>
      simp only [put, List.cons_append, List.isPrefixOf, Bool.and_true]
      by_cases hy : y = []
      · subst hy
        simp
        rw [Bool.eq_iff_iff, beq_iff_eq, decide_eq_true_eq]; exact eq_comm
      · have hne : ((1 : UInt8) == UInt8.ofNat (b :: y).length) = false := by
          have hyl : 1 ≤ y.length := by
            cases y with
            | nil => exact absurd rfl hy
            | cons p q => simp
          simp only [beq_eq_false_iff_ne]
          intro e
          have := congrArg UInt8.toNat e
          rw [nat_of (by omega)] at this
          simp at this
          exact hy this
        rw [hne, Bool.false_and]
        simp [hy]

theorem st_go {x y : List Bs} {k : Nat} {p q : Bs} {R : Bool} (h : decide (x.drop k = y.drop k) = R) (hp : x[k]? = some p) (hq : y[k]? = some q) (e : p = q) : decide (x.drop (k + 1) = y.drop (k + 1)) = R := by
  obtain ⟨h1, h2⟩ := List.getElem?_eq_some_iff.1 hp
  obtain ⟨h3, h4⟩ := List.getElem?_eq_some_iff.1 hq
  rw [List.drop_eq_getElem_cons h1, List.drop_eq_getElem_cons h3, h2, h4, e] at h
  rw [← h]; simp
theorem st_ne {x y : List Bs} {k : Nat} {p q : Bs} {R : Bool} (h : decide (x.drop k = y.drop k) = R) (hp : x[k]? = some p) (hq : y[k]? = some q) (e : p ≠ q) : false = R := by
  obtain ⟨h1, h2⟩ := List.getElem?_eq_some_iff.1 hp
  obtain ⟨h3, h4⟩ := List.getElem?_eq_some_iff.1 hq
  rw [List.drop_eq_getElem_cons h1, List.drop_eq_getElem_cons h3, h2, h4] at h
  rw [← h]; simp [e]
set_option maxRecDepth 100000 in
set_option maxHeartbeats 1000000 in
theorem same_any (a b : Option Addr) (n m c d : Nat) (x y : List Bs) (w : World) (hn : n = x.length) (hm : m = y.length) (hx : Rd w a 0 x) (hy : Rd w b 0 y) (hl : n ≤ 1099511627776) (hl2 : m ≤ 1099511627776) :
    Calls Try.prog 27 #[.slice a n c, .slice b m d] w fun e w' => e = .returned (.bool (decide (x = y))) ∧ Below w.heap.size w w' := by
  obtain ⟨R, HR⟩ : ∃ R, Hid (decide (x = y) = R) := ⟨_, Lib.hid rfl⟩
  rw [HR.out]
  by_cases hnm : n = m
  · have HC : Hid (decide (x.drop 0 = y.drop 0) = R) := HR
    have HN := Lib.hid hn; have HM := Lib.hid hm; have HX := Lib.hid hx; have HY := Lib.hid hy
    subst hnm
    clear hn hm hx hy hl2
    go_enter Try.func27, Try.ntmps27
    go_wp2
    go_loopg [13] (n + 1) (fun gas kv wr => ∃ (k : Nat), kv = .int .i64 k ∧ k ≤ n ∧ k + gas = n + 1 ∧ Hid (decide (x.drop k = y.drop k) = R) ∧ Below w.heap.size w wr)
    case atStart => exact ⟨0, rfl, by omega, by omega, HC, Below.refl _ _⟩
    case round =>
      obtain ⟨k, rfl, hk, hkg, HW, hB⟩ := hrel
      have HK := Lib.hid hkg; clear hkg
      by_cases hlt : k < n
      · obtain ⟨p, hp⟩ : ∃ p, x[k]? = some p := ⟨_, List.getElem?_eq_getElem (by have := HN.out; omega)⟩
        obtain ⟨q, hq⟩ : ∃ q, y[k]? = some q := ⟨_, List.getElem?_eq_getElem (by have := HM.out; omega)⟩
        obtain ⟨g1, o1, rfl, _, hg1, hcl1⟩ := HX.out _ p hp
        obtain ⟨g2, o2, rfl, _, hg2, hcl2⟩ := HY.out _ q hq
        have hcx := (hB.cell (p := ⟨g1, o1 + k, none⟩) hg1).trans hcl1
        have hcy := (hB.cell (p := ⟨g2, o2 + k, none⟩) hg2).trans hcl2
        have HP := Lib.hid hp; have HQ := Lib.hid hq
        clear hp hq hcl1 hcl2
        unfold strV at hcx hcy
        obtain ⟨P, hP⟩ : ∃ P : ByteArray, ⟨p.toArray⟩ = P := ⟨_, rfl⟩
        obtain ⟨Q, hQ⟩ : ∃ Q : ByteArray, ⟨q.toArray⟩ = Q := ⟨_, rfl⟩
        have hPp : p = P.data.toList := by rw [← hP]
        have hQq : q = Q.data.toList := by rw [← hQ]
        rw [hP] at hcx
        rw [hQ] at hcy
        subst hPp
        subst hQq
        clear hP hQ
        have zk : (0 : Int) ≤ (k : Int) := by omega
        have zl : (k : Int) < (n : Int) := by omega
        by_cases he : P.data.toList = Q.data.toList
        · have HG := Lib.hid (st_go HW.out HP.out HQ.out he)
          have he' : (P.toList == Q.toList) = true := by rw [Lib.toList_data, Lib.toList_data]; simpa using he
          clear he
          go_wp2_with fail
          go_quiet (fail)
          have hBn : Below w.heap.size w (wr.drewN nq) := below_drewN hB nq
          go_wp2
          have hkg := HK.out
          go_roundg (gk - 1)
          case rel => exact ⟨k + 1, by go_num, by omega, by omega, HG, hBn⟩
          case measure => omega
        · have HG := Lib.hid (st_ne HW.out HP.out HQ.out he)
          have he' : (P.toList == Q.toList) = false := by rw [Lib.toList_data, Lib.toList_data]; simpa using he
          clear he
          go_wp2_with fail
          go_quiet (fail)
          have hBn : Below w.heap.size w (wr.drewN nq) := below_drewN hB nq
          go_wp2
          go_ret
          exact ⟨ret_bool HG.out, hBn⟩
      · have HE : Hid (true = R) := Lib.hid (by
          rw [← HW.out, List.drop_eq_nil_iff.2 (by have := HN.out; omega), List.drop_eq_nil_iff.2 (by have := HM.out; omega)]; simp)
        go_wp2
        go_ret
        exact ⟨ret_bool HE.out, hB⟩
  · have HE : Hid (false = R) := Lib.hid (by
      rw [← HR.out]; symm; simp only [decide_eq_false_iff_not]; rintro rfl; exact hnm (hn.trans hm.symm))
    have hne : ((n : Int) == (m : Int)) = false := by simp; omega
    clear hn hm hnm
    go_enter Try.func27, Try.ntmps27
    go_wp2
    go_ret
    exact ⟨ret_bool HE.out, Below.refl _ _⟩
end Go.Proofs.Ythblaldkpjilhaa.star
