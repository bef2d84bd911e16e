/- The law NameCompares: its walk. -/
import Derived.Test.YtjflojefpaffeaaRefCmp
import Derived.Test.YtjflojefpaffeaaNameC
namespace Go.Proofs.Ytjflojefpaffeaa.ncmps
open Go.RowKit Go.Proofs.Ytjflojefpaffeaa.kit Go.Proofs.Ytjflojefpaffeaa.check Go.Proofs.Ytjflojefpaffeaa.nspec Go.Proofs.Ytjflojefpaffeaa.rsplit Go.Proofs.Ytjflojefpaffeaa.low Go.Proofs.Ytjflojefpaffeaa.refA Go.Proofs.Ytjflojefpaffeaa.refB Go.Proofs.Ytjflojefpaffeaa.nameA Go.Proofs.Ytjflojefpaffeaa.nameB Go.Proofs.Ytjflojefpaffeaa.nameC Go.Proofs.Ytjflojefpaffeaa.ncmp Go.Proofs.Ytjflojefpaffeaa.rcmp

theorem equal_symm (a b : Bs) : equalS a b = equalS b a := by
  rw [equalS_eq, equalS_eq, Bool.and_comm (split b).isSome, decide_eq_decide.2 (eq_comm (a := foldS a) (b := foldS b))]
theorem comF_far {a b : Bs} {n : Nat} (h : ∀ g, n < g → equalS (tailS a g) (tailS b g) = false) : ∀ k, comF a b (n + 1 + k) = comF a b (n + 1)
  | 0 => rfl
  | k + 1 => by
    rw [← Nat.add_assoc]
    conv => lhs; rw [comF]
    rw [h _ (by omega), if_neg (by simp)]
    exact comF_far h k
theorem common_same (a b : Bs) : commonP a b = commonS a b := by
  unfold commonP commonS
  cases ha : split a with
  | none =>
    have h1 := countS_no ha
    have h2 := countS_bd b
    rw [h1, show (min (-1) (countS b) + 1).toNat = 0 by omega]
    rfl
  | some x =>
    have hx := split_iff.1 ha
    rw [countS_yes hx]
    cases hb : split b with
    | none =>
      rw [countS_no hb, show (min (x.length : Int) (-1) + 1).toNat = 0 by omega]
      have : ∀ g, cF a b g = [] := by
        intro g
        induction g with
        | zero => rfl
        | succ g ih =>
          rw [cF, ih]
          have hw : withinS b (tailS a g) = false := by
            rw [← within_same]; unfold withinP; rw [tailS_no hb, equal_no1 split_nil]; simp
          rw [hw]; rfl
      rw [this]; rfl
    | some y =>
      have hy := split_iff.1 hb
      rw [countS_yes hy]
      have hstep : ∀ g : Nat, g ≤ x.length → withinS b (tailS a g) = equalS (tailS a g) (tailS b g) := by
        intro g hg
        have ht := tail_isN hx g hg
        rw [← within_same]; unfold withinP
        rw [countS_yes ht, List.length_drop, show x.length - (x.length - g) = g by omega, decide_eq_true (by omega), Bool.true_and, equal_symm]
      have hall : ∀ g : Nat, g ≤ x.length + 1 → cF a b g = comF a b g := by
        intro g
        induction g with
        | zero => intro _; rfl
        | succ g ih => intro hg; rw [cF, comF, hstep g (by omega), ih (by omega)]
      rw [show ((x.length : Int) + 1).toNat = x.length + 1 by omega, hall _ (Nat.le_refl _)]
      by_cases hle : x.length ≤ y.length
      · rw [show (min (x.length : Int) (y.length : Int) + 1).toNat = x.length + 1 by omega]
      · rw [show (min (x.length : Int) (y.length : Int) + 1).toNat = y.length + 1 by omega]
        have := comF_far (a := a) (b := b) (n := y.length) (fun g hg => by
          rw [tailS_yes hy, if_neg (by omega), equal_no2 split_nil]) (x.length - y.length)
        rw [← this]; congr 1; omega

theorem commonS_len (a b : Bs) : (commonS a b).length ≤ 255 := by
  have : ∀ g, (cF a b g).length ≤ 255 := by
    intro g
    induction g with
    | zero => simp [cF]
    | succ g ih => rw [cF]; split; exact tailS_len _ _; exact ih
  exact this _
set_option maxRecDepth 100000 in
set_option maxHeartbeats 1000000 in
theorem walk (a b : ByteArray) (w : World) (ha : a.size ≤ 1048576) (hb : b.size ≤ 1048576) :
    Calls Try.prog 13 #[.string a, .string b] w fun e w' => e = .returned (.bool true) ∧ Below w.heap.size w w' := by
  obtain ⟨E, HE⟩ : ∃ E, Hid (equalS a.data.toList b.data.toList = E) := ⟨_, Lib.hid rfl⟩
  obtain ⟨C, HC⟩ : ∃ C, Hid (cmpS a.data.toList b.data.toList = C) := ⟨_, Lib.hid rfl⟩
  obtain ⟨I, HI⟩ : ∃ I, Hid (withinS a.data.toList b.data.toList = I) := ⟨_, Lib.hid rfl⟩
  obtain ⟨M, HM⟩ : ∃ M, Hid (commonS a.data.toList b.data.toList = M) := ⟨_, Lib.hid rfl⟩
  have HW := Lib.hid (within_same a.data.toList b.data.toList)
  have HS := Lib.hid (common_same a.data.toList b.data.toList)
  go_enter Try.func13, Try.ntmps13
  go_wp2_with fail
  refine (nequal_any a b _ (by omega) (by omega)).mono ?_
  rintro e w1 ⟨rfl, hB1⟩
  rw [HE.out]
  have hC1 := hB1
  go_wp2_with fail
  refine (equal_any a b _ (by omega) (by omega)).mono ?_
  rintro e w2 ⟨rfl, hB2⟩
  rw [HE.out]
  have hC2 := hC1.trans (hB2.mono hC1.size)
  clear hB2 hC1
  go_wp2_with fail
  refine (ncmp_any a b _ (by omega) (by omega)).mono ?_
  rintro e w3 ⟨rfl, hB3⟩
  rw [HC.out]
  have hC3 := hC2.trans (hB3.mono hC2.size)
  clear hB3 hC2
  go_wp2_with fail
  refine (compare_any a b _ (by omega) (by omega)).mono ?_
  rintro e w4 ⟨rfl, hB4⟩
  rw [HC.out]
  have hC4 := hC3.trans (hB4.mono hC3.size)
  clear hB4 hC3
  go_wp2_with fail
  refine (nwithin_any a b _ (by omega) (by omega)).mono ?_
  rintro e w5 ⟨rfl, hB5⟩
  rw [HW.out, HI.out]
  have hC5 := hC4.trans (hB5.mono hC4.size)
  clear hB5 hC4
  go_wp2_with fail
  refine (within_any a b _ (by omega) (by omega)).mono ?_
  rintro e w6 ⟨rfl, hB6⟩
  rw [HI.out]
  have hC6 := hC5.trans (hB6.mono hC5.size)
  clear hB6 hC5
  go_wp2_with fail
  refine (ncommon_any a b _ (by omega) (by omega)).mono ?_
  rintro e w7 ⟨rfl, hB7⟩
  rw [HS.out, HM.out]
  have hC7 := hC6.trans (hB7.mono hC6.size)
  clear hB7 hC6
  go_wp2_with fail
  refine (common_any a b _ (by omega) (by omega)).mono ?_
  rintro e w8 ⟨rfl, hB8⟩
  rw [HM.out]
  have hC8 := hC7.trans (hB8.mono hC7.size)
  clear hB8 hC7
  go_wp2
  go_ret
  exact ⟨rfl, hC8⟩
end Go.Proofs.Ytjflojefpaffeaa.ncmps
