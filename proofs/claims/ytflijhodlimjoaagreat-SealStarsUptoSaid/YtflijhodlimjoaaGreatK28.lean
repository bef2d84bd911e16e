/- A new key: seal.NewKey: walk. -/
import Derived.Test.YtflijhodlimjoaaGreatK27
import Derived.Below
namespace Go.Proofs.YtflijhodlimjoaaGreat.newKey
open Go.RowKit Go.Proofs.YtflijhodlimjoaaGreat.kit Go.Proofs.YtflijhodlimjoaaGreat.keysP Go.Proofs.YtflijhodlimjoaaGreat.keyW Go.Proofs.YtflijhodlimjoaaGreat.inverse
set_option linter.unusedVariables false

def GoodK (p q e f : Int) : Prop := 2 ≤ p ∧ 2 ≤ q ∧ p * q ≤ 2147483647 ∧ p ≠ q ∧ 65537 ≤ p * q ∧ 3 ≤ e ∧ e ≤ 65535 ∧ e % 2 = 1 ∧ (f = 256 ∨ f = 257) ∧ PrimeP p.toNat ∧ PrimeP q.toNat ∧ Nat.gcd e.toNat ((p.toNat - 1) * (q.toNat - 1)) = 1
def keyV (f m e d : Int) (x : Int) : Ending := .returned (.tuple #[.agg #[.int .i64 f, .int .i64 m, .int .i64 e, .int .i64 d], .int .i64 x])
/-- what is said of a new key -/
def SaysK (p q e f : Int) (w : World) (en : Ending) (w' : World) : Prop := Below w.heap.size w w' ∧ ((¬ GoodK p q e f ∧ en = keyV 0 0 0 0 24) ∨ (GoodK p q e f ∧ ∃ d : Nat, Inv e.toNat ((p.toNat - 1) * (q.toNat - 1)) d ∧ en = keyV f (p * q) e (d : Int) 0))
theorem says_bad {p q e f : Int} {w w' : World} (h : ¬ GoodK p q e f) (hB : Below w.heap.size w w') : SaysK p q e f w (.returned (.tuple #[.agg #[.int .i64 0, .int .i64 0, .int .i64 0, .int .i64 0], .int .i64 24])) w' := ⟨hB, .inl ⟨h, rfl⟩⟩
theorem nprime_yes (n : Nat) (w : World) (h2 : 2 ≤ n) (hn : n ≤ 2147483648) (h : PrimeP n) :
    Calls Tryz.prog 88 #[.int .i64 (n : Int)] w fun e w' => e = .returned (.bool true) ∧ w = w' :=
  (nprime_any n w h2 hn).mono fun e w' ⟨b, h1, h2, h3⟩ => ⟨by rw [h1, h2.2 h], h3⟩
theorem nprime_no (n : Nat) (w : World) (h2 : 2 ≤ n) (hn : n ≤ 2147483648) (h : ¬ PrimeP n) :
    Calls Tryz.prog 88 #[.int .i64 (n : Int)] w fun e w' => e = .returned (.bool false) ∧ w = w' :=
  (nprime_any n w h2 hn).mono fun e w' ⟨b, h1, h2, h3⟩ => ⟨by cases b with | true => exact absurd (h2.1 rfl) h | false => exact h1, h3⟩
theorem bcell {W w1 : World} (hb : Below W.heap.size W w1) : (∀ b o, b < W.heap.size → w1.cell? ⟨b, o, none⟩ = W.cell? ⟨b, o, none⟩) ∧ (∀ b o, b < W.heap.size → w1.frozen? ⟨b, o, none⟩ = W.frozen? ⟨b, o, none⟩) :=
  ⟨fun b o h => hb.cell (p := ⟨b, o, none⟩) h, fun b o h => hb.frozen (p := ⟨b, o, none⟩) h⟩

set_option maxRecDepth 100000 in
set_option maxHeartbeats 4000000 in
theorem nkey_any (p q e f : Int) (w : World) : Calls Tryz.prog 18 #[.int .i64 p, .int .i64 q, .int .i64 e, .int .i64 f] w (SaysK p q e f w) := by
  have HB := Lib.hid ((Below.refl w.heap.size w).alloc (Nat.le_refl _) (.cells #[.int .i64 0, .int .i64 0, .int .i64 0, .int .i64 0] 32))

  by_cases h1 : p < 2
  · have HG : Hid (¬ GoodK p q e f) := Lib.hid (fun h => by have := h.1; omega)
    go_enter Tryz.func18, Tryz.ntmps18
    go_wp2_with fail
    exact bodyPost_ret (v := .tuple #[.agg #[.int .i64 0, .int .i64 0, .int .i64 0, .int .i64 0], .int .i64 24]) (by simp [results, Tryz.results18, go_sem]) rfl (says_bad HG.out HB.out)
  by_cases h2 : q < 2
  · have HG : Hid (¬ GoodK p q e f) := Lib.hid (fun h => by have := h.2.1; omega)
    go_enter Tryz.func18, Tryz.ntmps18
    go_wp2_with fail
    exact bodyPost_ret (v := .tuple #[.agg #[.int .i64 0, .int .i64 0, .int .i64 0, .int .i64 0], .int .i64 24]) (by simp [results, Tryz.results18, go_sem]) rfl (says_bad HG.out HB.out)
  obtain ⟨p, rfl⟩ : ∃ n : Nat, p = n := ⟨p.toNat, by omega⟩
  obtain ⟨q, rfl⟩ : ∃ n : Nat, q = n := ⟨q.toNat, by omega⟩
  have p2 : 2 ≤ p := by omega
  have q2 : 2 ≤ q := by omega
  have q1i : (1 : Int) ≤ (q : Int) := by omega
  have h1i : (2 : Int) ≤ (p : Int) := by omega
  have h2i : (2 : Int) ≤ (q : Int) := by omega
  have d1 : decide ((p : Int) < 2) = false := by rw [decide_eq_false_iff_not]; omega
  have d2 : decide ((q : Int) < 2) = false := by rw [decide_eq_false_iff_not]; omega
  clear h1 h2
  obtain ⟨T, hT⟩ : ∃ T : Nat, 2147483647 / q = T := ⟨_, rfl⟩
  have hTle : T ≤ 2147483647 := by rw [← hT]; exact Nat.div_le_self _ _
  have HQ : Hid ((2147483647 : Int) / (q : Int) = (T : Int)) := Lib.hid (by rw [← hT]; simp)
  have HT : Hid (p ≤ T ↔ p * q ≤ 2147483647) := Lib.hid (by rw [← hT, Nat.le_div_iff_mul_le (by omega)])
  clear hT
  obtain ⟨S, hS⟩ : ∃ S : Nat, p * q = S := ⟨_, rfl⟩
  have HS := Lib.hid (show (p : Int) * (q : Int) = (S : Int) by rw [← hS]; simp)
  rw [hS] at HT
  have hpS : p ≤ S := by rw [← hS]; exact Nat.le_mul_of_pos_right p (by omega)
  have hqS : q ≤ S := by rw [← hS]; exact Nat.le_mul_of_pos_left q (by omega)
  by_cases h3 : T < p
  · have HG : Hid (¬ GoodK p q e f) := Lib.hid (fun h => by have h5 := h.2.2.1; have h6 := HT.out; rw [HS.out] at h5; omega)
    have d3 : decide ((2147483647 : Int) / (q : Int) < (p : Int)) = true := by rw [HQ.out, decide_eq_true_eq]; omega
    clear hS hpS hqS h3
    go_enter Tryz.func18, Tryz.ntmps18
    go_wp2_with fail
    exact bodyPost_ret (v := .tuple #[.agg #[.int .i64 0, .int .i64 0, .int .i64 0, .int .i64 0], .int .i64 24]) (by simp [results, Tryz.results18, go_sem]) rfl (says_bad HG.out HB.out)
  have hSle : S ≤ 2147483647 := HT.out.1 (by omega)
  have d3 : decide ((2147483647 : Int) / (q : Int) < (p : Int)) = false := by rw [HQ.out, decide_eq_false_iff_not]; omega
  have HW : Hid (wrap64 ((p : Int) * (q : Int)) = (S : Int)) := Lib.hid (by rw [HS.out, IntWalk.wrap64_in _ (by omega)])
  obtain ⟨m, hm⟩ : ∃ m, (p - 1) * (q - 1) = m := ⟨_, rfl⟩
  have hmS : m ≤ S := by rw [← hm, ← hS]; exact Nat.mul_le_mul (by omega) (by omega)
  have x3 : Value.int .i64 (wrap64 (((p : Int) - 1) * ((q : Int) - 1))) = Value.int .i64 (m : Int) := by
    have h5 : ((p : Int) - 1) * ((q : Int) - 1) = (m : Int) := by rw [← hm, show ((p : Int) - 1) = ((p - 1 : Nat) : Int) by omega, show ((q : Int) - 1) = ((q - 1 : Nat) : Int) by omega]; simp
    rw [h5, IntWalk.wrap64_in _ (by omega)]
  have HM : Hid ((p - 1) * (q - 1) = m) := Lib.hid hm
  have hm2 : 65537 ≤ S → 2 ≤ m := by
    intro h7
    rw [← hm]
    rcases Nat.lt_or_ge p 3 with h8 | h8
    · have : p = 2 := by omega
      subst this; omega
    · have := Nat.mul_le_mul (show 2 ≤ p - 1 by omega) (show 1 ≤ q - 1 by omega); omega
  clear hS hm h3
  by_cases h4 : p = q
  · have HG : Hid (¬ GoodK p q e f) := Lib.hid (fun h => h.2.2.2.1 (by rw [h4]))
    have b4 : ((p : Int) == (q : Int)) = true := by rw [beq_iff_eq]; omega
    clear h4
    go_enter Tryz.func18, Tryz.ntmps18
    go_wp2_with fail
    exact bodyPost_ret (v := .tuple #[.agg #[.int .i64 0, .int .i64 0, .int .i64 0, .int .i64 0], .int .i64 24]) (by simp [results, Tryz.results18, go_sem]) rfl (says_bad HG.out HB.out)
  have b4 : ((p : Int) == (q : Int)) = false := by rw [beq_eq_false_iff_ne]; omega
  have H4 := Lib.hid h4; clear h4
  by_cases h5 : S < 65537
  · have HG : Hid (¬ GoodK p q e f) := Lib.hid (fun h => by have h6 := h.2.2.2.2.1; rw [HS.out] at h6; omega)
    have d5 : decide (wrap64 ((p : Int) * (q : Int)) < 65537) = true := by rw [HW.out, decide_eq_true_eq]; omega
    go_enter Tryz.func18, Tryz.ntmps18
    go_wp2_with fail
    exact bodyPost_ret (v := .tuple #[.agg #[.int .i64 0, .int .i64 0, .int .i64 0, .int .i64 0], .int .i64 24]) (by simp [results, Tryz.results18, go_sem]) rfl (says_bad HG.out HB.out)
  have d5 : decide (wrap64 ((p : Int) * (q : Int)) < 65537) = false := by rw [HW.out, decide_eq_false_iff_not]; omega
  have h5i : 65537 ≤ S := by omega
  have m2 : 2 ≤ m := hm2 (by omega)
  clear h5 hm2
  by_cases h6 : e < 3
  · have HG : Hid (¬ GoodK p q e f) := Lib.hid (fun h => by have := h.2.2.2.2.2.1; omega)
    have d6 : decide (e < 3) = true := by rw [decide_eq_true_eq]; omega
    go_enter Tryz.func18, Tryz.ntmps18
    go_wp2_with fail
    exact bodyPost_ret (v := .tuple #[.agg #[.int .i64 0, .int .i64 0, .int .i64 0, .int .i64 0], .int .i64 24]) (by simp [results, Tryz.results18, go_sem]) rfl (says_bad HG.out HB.out)
  have h6i : 3 ≤ e := by omega
  have d6 : decide (e < 3) = false := by rw [decide_eq_false_iff_not]; omega
  clear h6
  by_cases h7 : 65535 < e
  · have HG : Hid (¬ GoodK p q e f) := Lib.hid (fun h => by have := h.2.2.2.2.2.2.1; omega)
    have d7 : decide (65535 < e) = true := by rw [decide_eq_true_eq]; omega
    go_enter Tryz.func18, Tryz.ntmps18
    go_wp2_with fail
    exact bodyPost_ret (v := .tuple #[.agg #[.int .i64 0, .int .i64 0, .int .i64 0, .int .i64 0], .int .i64 24]) (by simp [results, Tryz.results18, go_sem]) rfl (says_bad HG.out HB.out)
  have h7i : e ≤ 65535 := by omega
  have d7 : decide (65535 < e) = false := by rw [decide_eq_false_iff_not]; omega
  clear h7
  obtain ⟨e, rfl⟩ : ∃ n : Nat, e = n := ⟨e.toNat, by omega⟩
  by_cases h8 : (e : Int) % 2 = 0
  · have HG : Hid (¬ GoodK p q e f) := Lib.hid (fun h => by have := h.2.2.2.2.2.2.2.1; omega)
    have b8 : ((e : Int) % 2 == 0) = true := by rw [beq_iff_eq]; exact h8
    clear h8
    go_enter Tryz.func18, Tryz.ntmps18
    go_wp2_with fail
    exact bodyPost_ret (v := .tuple #[.agg #[.int .i64 0, .int .i64 0, .int .i64 0, .int .i64 0], .int .i64 24]) (by simp [results, Tryz.results18, go_sem]) rfl (says_bad HG.out HB.out)
  have b8 : ((e : Int) % 2 == 0) = false := by rw [beq_eq_false_iff_ne]; exact h8
  have H8 : Hid ((e : Int) % 2 = 1) := Lib.hid (by omega)
  clear h8
  obtain ⟨x, hx⟩ : ∃ x, (f != 256) = x := ⟨_, rfl⟩
  obtain ⟨y, hy⟩ : ∃ y, (f != 257) = y := ⟨_, rfl⟩
  by_cases h9 : x = true ∧ y = true
  · obtain ⟨rfl, rfl⟩ := h9
    have HG : Hid (¬ GoodK p q e f) := Lib.hid (fun h => by
      rcases h.2.2.2.2.2.2.2.2.1 with h | h
      · subst h; simp at hx
      · subst h; simp at hy)
    go_enter Tryz.func18, Tryz.ntmps18
    go_wp2_with fail
    exact bodyPost_ret (v := .tuple #[.agg #[.int .i64 0, .int .i64 0, .int .i64 0, .int .i64 0], .int .i64 24]) (by simp [results, Tryz.results18, go_sem]) rfl (says_bad HG.out HB.out)
  have H9 : Hid (f = 256 ∨ f = 257) := Lib.hid (by
    cases x with
    | false => left; simpa using hx
    | true => cases y with
      | false => right; simpa using hy
      | true => exact absurd ⟨rfl, rfl⟩ h9)
  have h9b : (x && y) = false := by cases x <;> cases y <;> simp_all
  clear h9
  cases x
  · clear h9b hy
    by_cases hp : PrimeP p
    · have CP := Lib.hid (fun w => nprime_yes p w (by omega) (by omega) hp)
      by_cases hq : PrimeP q
      · have CQ := Lib.hid (fun w => nprime_yes q w (by omega) (by omega) hq)
        have HGOOD : Hid (Nat.gcd e m = 1 → GoodK p q e f) := Lib.hid (fun h => ⟨by omega, by omega, by rw [HS.out]; omega, by have := H4.out; omega, by rw [HS.out]; omega, by omega, by omega, H8.out, H9.out, by simpa using hp, by simpa using hq, by simpa [HM.out] using h⟩)
        have HBAD : Hid (Nat.gcd e m ≠ 1 → ¬ GoodK p q e f) := Lib.hid (fun h h2 => h (by have := h2.2.2.2.2.2.2.2.2.2.2.2; simpa [HM.out] using this))
        have CI := Lib.hid (fun w => inverse_any e m w (by omega) m2 (by omega))
        clear hp hq
        go_enter Tryz.func18, Tryz.ntmps18
        go_wp2_with fail
        refine (CP.out _).mono ?_
        rintro e0 w0 ⟨rfl, rfl⟩
        go_wp2_with fail
        refine (CQ.out _).mono ?_
        rintro e0 w0 ⟨rfl, rfl⟩
        go_wp2_with fail
        refine (CI.out _).mono ?_
        rintro e0 w1 ⟨hB1, ⟨hg, rfl⟩ | ⟨d, hg, hI, rfl⟩⟩
        · have HG := Lib.hid (HBAD.out hg); clear hg
          obtain ⟨hc, hf⟩ := bcell hB1
          have HB1 := Lib.hid (HB.out.trans (hB1.mono (by simp)))
          clear hB1
          go_wp2_with fail
          exact bodyPost_ret (v := .tuple #[.agg #[.int .i64 0, .int .i64 0, .int .i64 0, .int .i64 0], .int .i64 24]) (by simp [results, Tryz.results18, go_sem, hc]) rfl (says_bad HG.out ((((HB1.out.setCell (Nat.le_refl _) _).setCell (Nat.le_refl _) _).setCell (Nat.le_refl _) _).setCell (Nat.le_refl _) _))
        · have HI := Lib.hid hI; have HG := Lib.hid (HGOOD.out hg); clear hI hg
          have hd0 : ((d : Int) == 0) = false := by
            rw [beq_eq_false_iff_ne]; intro h0
            have h1 := HI.out.2
            have h2 : d = 0 := by omega
            rw [h2, Nat.mul_zero, Nat.zero_mod, Nat.mod_eq_of_lt (by omega)] at h1
            omega
          obtain ⟨hc, hf⟩ := bcell hB1
          have HB1 := Lib.hid (HB.out.trans (hB1.mono (by simp)))
          clear hB1
          go_wp2_with fail
          refine bodyPost_ret (v := .tuple #[.agg #[.int .i64 f, .int .i64 (wrap64 ((p : Int) * (q : Int))), .int .i64 (e : Int), .int .i64 (d : Int)], .int .i64 0]) (by simp [results, Tryz.results18, go_sem, hc]) rfl ⟨((((HB1.out.setCell (Nat.le_refl _) _).setCell (Nat.le_refl _) _).setCell (Nat.le_refl _) _).setCell (Nat.le_refl _) _), .inr ⟨HG.out, d, by simpa [HM.out] using HI.out, ?_⟩⟩
          unfold keyV; rw [HW.out, HS.out]
      · have CQ := Lib.hid (fun w => nprime_no q w (by omega) (by omega) hq)
        have HG : Hid (¬ GoodK p q e f) := Lib.hid (fun h => hq (by have := h.2.2.2.2.2.2.2.2.2.2.1; simpa using this))
        clear hp hq
        go_enter Tryz.func18, Tryz.ntmps18
        go_wp2_with fail
        refine (CP.out _).mono ?_
        rintro e0 w0 ⟨rfl, rfl⟩
        go_wp2_with fail
        refine (CQ.out _).mono ?_
        rintro e0 w0 ⟨rfl, rfl⟩
        go_wp2_with fail
        exact bodyPost_ret (v := .tuple #[.agg #[.int .i64 0, .int .i64 0, .int .i64 0, .int .i64 0], .int .i64 24]) (by simp [results, Tryz.results18, go_sem]) rfl (says_bad HG.out HB.out)
    · have CP := Lib.hid (fun w => nprime_no p w (by omega) (by omega) hp)
      have HG : Hid (¬ GoodK p q e f) := Lib.hid (fun h => hp (by have := h.2.2.2.2.2.2.2.2.2.1; simpa using this))
      clear hp
      go_enter Tryz.func18, Tryz.ntmps18
      go_wp2_with fail
      refine (CP.out _).mono ?_
      rintro e0 w0 ⟨rfl, rfl⟩
      go_wp2_with fail
      exact bodyPost_ret (v := .tuple #[.agg #[.int .i64 0, .int .i64 0, .int .i64 0, .int .i64 0], .int .i64 24]) (by simp [results, Tryz.results18, go_sem]) rfl (says_bad HG.out HB.out)
  · have hyy : y = false := by simpa using h9b
    subst hyy
    clear h9b
    by_cases hp : PrimeP p
    · have CP := Lib.hid (fun w => nprime_yes p w (by omega) (by omega) hp)
      by_cases hq : PrimeP q
      · have CQ := Lib.hid (fun w => nprime_yes q w (by omega) (by omega) hq)
        have HGOOD : Hid (Nat.gcd e m = 1 → GoodK p q e f) := Lib.hid (fun h => ⟨by omega, by omega, by rw [HS.out]; omega, by have := H4.out; omega, by rw [HS.out]; omega, by omega, by omega, H8.out, H9.out, by simpa using hp, by simpa using hq, by simpa [HM.out] using h⟩)
        have HBAD : Hid (Nat.gcd e m ≠ 1 → ¬ GoodK p q e f) := Lib.hid (fun h h2 => h (by have := h2.2.2.2.2.2.2.2.2.2.2.2; simpa [HM.out] using this))
        have CI := Lib.hid (fun w => inverse_any e m w (by omega) m2 (by omega))
        clear hp hq
        go_enter Tryz.func18, Tryz.ntmps18
        go_wp2_with fail
        refine (CP.out _).mono ?_
        rintro e0 w0 ⟨rfl, rfl⟩
        go_wp2_with fail
        refine (CQ.out _).mono ?_
        rintro e0 w0 ⟨rfl, rfl⟩
        go_wp2_with fail
        refine (CI.out _).mono ?_
        rintro e0 w1 ⟨hB1, ⟨hg, rfl⟩ | ⟨d, hg, hI, rfl⟩⟩
        · have HG := Lib.hid (HBAD.out hg); clear hg
          obtain ⟨hc, hf⟩ := bcell hB1
          have HB1 := Lib.hid (HB.out.trans (hB1.mono (by simp)))
          clear hB1
          go_wp2_with fail
          exact bodyPost_ret (v := .tuple #[.agg #[.int .i64 0, .int .i64 0, .int .i64 0, .int .i64 0], .int .i64 24]) (by simp [results, Tryz.results18, go_sem, hc]) rfl (says_bad HG.out ((((HB1.out.setCell (Nat.le_refl _) _).setCell (Nat.le_refl _) _).setCell (Nat.le_refl _) _).setCell (Nat.le_refl _) _))
        · have HI := Lib.hid hI; have HG := Lib.hid (HGOOD.out hg); clear hI hg
          have hd0 : ((d : Int) == 0) = false := by
            rw [beq_eq_false_iff_ne]; intro h0
            have h1 := HI.out.2
            have h2 : d = 0 := by omega
            rw [h2, Nat.mul_zero, Nat.zero_mod, Nat.mod_eq_of_lt (by omega)] at h1
            omega
          obtain ⟨hc, hf⟩ := bcell hB1
          have HB1 := Lib.hid (HB.out.trans (hB1.mono (by simp)))
          clear hB1
          go_wp2_with fail
          refine bodyPost_ret (v := .tuple #[.agg #[.int .i64 f, .int .i64 (wrap64 ((p : Int) * (q : Int))), .int .i64 (e : Int), .int .i64 (d : Int)], .int .i64 0]) (by simp [results, Tryz.results18, go_sem, hc]) rfl ⟨((((HB1.out.setCell (Nat.le_refl _) _).setCell (Nat.le_refl _) _).setCell (Nat.le_refl _) _).setCell (Nat.le_refl _) _), .inr ⟨HG.out, d, by simpa [HM.out] using HI.out, ?_⟩⟩
          unfold keyV; rw [HW.out, HS.out]
      · have CQ := Lib.hid (fun w => nprime_no q w (by omega) (by omega) hq)
        have HG : Hid (¬ GoodK p q e f) := Lib.hid (fun h => hq (by have := h.2.2.2.2.2.2.2.2.2.2.1; simpa using this))
        clear hp hq
        go_enter Tryz.func18, Tryz.ntmps18
        go_wp2_with fail
        refine (CP.out _).mono ?_
        rintro e0 w0 ⟨rfl, rfl⟩
        go_wp2_with fail
        refine (CQ.out _).mono ?_
        rintro e0 w0 ⟨rfl, rfl⟩
        go_wp2_with fail
        exact bodyPost_ret (v := .tuple #[.agg #[.int .i64 0, .int .i64 0, .int .i64 0, .int .i64 0], .int .i64 24]) (by simp [results, Tryz.results18, go_sem]) rfl (says_bad HG.out HB.out)
    · have CP := Lib.hid (fun w => nprime_no p w (by omega) (by omega) hp)
      have HG : Hid (¬ GoodK p q e f) := Lib.hid (fun h => hp (by have := h.2.2.2.2.2.2.2.2.2.1; simpa using this))
      clear hp
      go_enter Tryz.func18, Tryz.ntmps18
      go_wp2_with fail
      refine (CP.out _).mono ?_
      rintro e0 w0 ⟨rfl, rfl⟩
      go_wp2_with fail
      exact bodyPost_ret (v := .tuple #[.agg #[.int .i64 0, .int .i64 0, .int .i64 0, .int .i64 0], .int .i64 24]) (by simp [results, Tryz.results18, go_sem]) rfl (says_bad HG.out HB.out)
end Go.Proofs.YtflijhodlimjoaaGreat.newKey
