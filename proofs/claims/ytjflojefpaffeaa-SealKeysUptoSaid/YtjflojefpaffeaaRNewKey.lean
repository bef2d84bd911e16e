/- A new key: gazetteerref4.NewKey: walk. -/
import Derived.Test.YtjflojefpaffeaaNewKey
namespace Go.Proofs.Ytjflojefpaffeaa.rnewKey
open Go.RowKit Go.Proofs.Ytjflojefpaffeaa.kit Go.Proofs.Ytjflojefpaffeaa.keysP Go.Proofs.Ytjflojefpaffeaa.keyW Go.Proofs.Ytjflojefpaffeaa.newKey
set_option linter.unusedVariables false

theorem euc_end {e m : Nat} : ∀ (n r0 r1 : Nat) (s0 s1 : Int), r1 ≤ n → Euc e m r0 r1 s0 s1 → ∃ (r : Nat) (a b : Int), Euc e m r 0 a b
  | 0, r0, r1, s0, s1, h, hE => by
    obtain rfl : r1 = 0 := by omega
    exact ⟨r0, s0, s1, hE⟩
  | n + 1, r0, r1, s0, s1, h, hE => by
    rcases Nat.eq_zero_or_pos r1 with h0 | h0
    · subst h0; exact ⟨r0, s0, s1, hE⟩
    · exact euc_end n _ _ _ _ (by have := Nat.mod_lt r0 h0; omega) (hE.step h0)
theorem inv_of {e m : Nat} (hm : 2 ≤ m) (hg : Nat.gcd e m = 1) : ∃ d, Inv e m d := by
  obtain ⟨r, a, b, h⟩ := euc_end (e % m) m (e % m) 0 1 (Nat.le_refl _) (Euc.start (e := e) (m := m) (by omega))
  have h1 := h.no
  rw [hg] at h1
  subst h1
  exact ⟨_, h.yes hm⟩

set_option maxRecDepth 100000 in
set_option maxHeartbeats 8000000 in
theorem rkey_any (p q e f : Int) (w : World) : Calls Try.prog 68 #[.int .i64 p, .int .i64 q, .int .i64 e, .int .i64 f] w (SaysK p q e f w) := by
  have HB := Lib.hid (((Below.refl w.heap.size w).alloc (Nat.le_refl _) (.cells #[.int .i64 0, .int .i64 0, .int .i64 0, .int .i64 0] 34)).alloc (by rw [World.size_alloc]; omega) (.cells #[.int .i64 0, .int .i64 0, .int .i64 0, .int .i64 0] 34))

  by_cases h1 : p < 2
  · have HG : Hid (¬ GoodK p q e f) := Lib.hid (fun h => by have := h.1; omega)
    go_enter Try.func68, Try.ntmps68
    go_wp2_with fail
    exact bodyPost_ret (v := .tuple #[.agg #[.int .i64 0, .int .i64 0, .int .i64 0, .int .i64 0], .int .i64 24]) (by simp [results, Try.results68, go_sem]) rfl (says_bad HG.out HB.out)
  by_cases h2 : q < 2
  · have HG : Hid (¬ GoodK p q e f) := Lib.hid (fun h => by have := h.2.1; omega)
    go_enter Try.func68, Try.ntmps68
    go_wp2_with fail
    exact bodyPost_ret (v := .tuple #[.agg #[.int .i64 0, .int .i64 0, .int .i64 0, .int .i64 0], .int .i64 24]) (by simp [results, Try.results68, go_sem]) rfl (says_bad HG.out HB.out)
  obtain ⟨p, rfl⟩ : ∃ n : Nat, p = n := ⟨p.toNat, by omega⟩
  obtain ⟨q, rfl⟩ : ∃ n : Nat, q = n := ⟨q.toNat, by omega⟩
  have p2 : 2 ≤ p := by omega
  have q2 : 2 ≤ q := by omega
  have d1 : decide ((p : Int) < 2) = false := by rw [decide_eq_false_iff_not]; omega
  have d2 : decide ((q : Int) < 2) = false := by rw [decide_eq_false_iff_not]; omega
  clear h1 h2
  have HPQ : Hid ((p : Int) * (q : Int) = ((p * q : Nat) : Int)) := Lib.hid (by simp)
  have HPL : Hid (p ≤ p * q ∧ q ≤ p * q) := Lib.hid ⟨Nat.le_mul_of_pos_right p (by omega), Nat.le_mul_of_pos_left q (by omega)⟩
  by_cases h3 : 2147483648 < p
  · have HG : Hid (¬ GoodK p q e f) := Lib.hid (fun h => by have h5 := h.2.2.1; have h6 := HPL.out; rw [HPQ.out] at h5; omega)
    have d3 : decide (2147483648 < (p : Int)) = true := by rw [decide_eq_true_eq]; omega
    clear h3
    go_enter Try.func68, Try.ntmps68
    go_wp2_with fail
    exact bodyPost_ret (v := .tuple #[.agg #[.int .i64 0, .int .i64 0, .int .i64 0, .int .i64 0], .int .i64 24]) (by simp [results, Try.results68, go_sem]) rfl (says_bad HG.out HB.out)
  have d3 : decide (2147483648 < (p : Int)) = false := by rw [decide_eq_false_iff_not]; omega
  by_cases h4 : 2147483648 < q
  · have HG : Hid (¬ GoodK p q e f) := Lib.hid (fun h => by have h5 := h.2.2.1; have h6 := HPL.out; rw [HPQ.out] at h5; omega)
    have d4 : decide (2147483648 < (q : Int)) = true := by rw [decide_eq_true_eq]; omega
    clear h3 h4
    go_enter Try.func68, Try.ntmps68
    go_wp2_with fail
    exact bodyPost_ret (v := .tuple #[.agg #[.int .i64 0, .int .i64 0, .int .i64 0, .int .i64 0], .int .i64 24]) (by simp [results, Try.results68, go_sem]) rfl (says_bad HG.out HB.out)
  have d4 : decide (2147483648 < (q : Int)) = false := by rw [decide_eq_false_iff_not]; omega
  obtain ⟨S, hS⟩ : ∃ S : Nat, p * q = S := ⟨_, rfl⟩
  have hS62 : S ≤ 2147483648 * 2147483648 := by rw [← hS]; exact Nat.mul_le_mul (by omega) (by omega)
  rw [hS] at HPQ HPL
  have HW : Hid (wrap64 ((p : Int) * (q : Int)) = (S : Int)) := Lib.hid (by rw [HPQ.out, IntWalk.wrap64_in _ (by omega)])
  have H62 := Lib.hid hS62; clear hS62
  obtain ⟨m, hm⟩ : ∃ m, (p - 1) * (q - 1) = m := ⟨_, rfl⟩
  have HMS : Hid (m ≤ S) := Lib.hid (by rw [← hm, ← hS]; exact Nat.mul_le_mul (by omega) (by omega))
  have HM : Hid ((p - 1) * (q - 1) = m) := Lib.hid hm
  have HMI : Hid (((p : Int) - 1) * ((q : Int) - 1) = (m : Int)) := Lib.hid (by rw [← hm, show ((p : Int) - 1) = ((p - 1 : Nat) : Int) by omega, show ((q : Int) - 1) = ((q - 1 : Nat) : Int) by omega]; simp)
  have HM2 : Hid (65537 ≤ S → 2 ≤ m) := Lib.hid (by
    intro h7
    rw [← hm]
    rcases Nat.lt_or_ge p 3 with h8 | h8
    · have : p = 2 := by omega
      subst this; omega
    · have := Nat.mul_le_mul (show 2 ≤ p - 1 by omega) (show 1 ≤ q - 1 by omega); omega)
  clear hS hm
  have h3i : p ≤ 2147483648 := by omega
  have h4i : q ≤ 2147483648 := by omega
  clear h3 h4
  by_cases h5 : p = q
  · have HG : Hid (¬ GoodK p q e f) := Lib.hid (fun h => h.2.2.2.1 (by rw [h5]))
    have b4 : ((p : Int) == (q : Int)) = true := by rw [beq_iff_eq]; omega
    clear h5
    go_enter Try.func68, Try.ntmps68
    go_wp2_with fail
    exact bodyPost_ret (v := .tuple #[.agg #[.int .i64 0, .int .i64 0, .int .i64 0, .int .i64 0], .int .i64 24]) (by simp [results, Try.results68, go_sem]) rfl (says_bad HG.out HB.out)
  have b4 : ((p : Int) == (q : Int)) = false := by rw [beq_eq_false_iff_ne]; omega
  have H4 := Lib.hid h5; clear h5
  by_cases h6 : S < 65537
  · have HG : Hid (¬ GoodK p q e f) := Lib.hid (fun h => by have h7 := h.2.2.2.2.1; rw [HPQ.out] at h7; omega)
    have d5 : decide (wrap64 ((p : Int) * (q : Int)) < 65537) = true := by rw [HW.out, decide_eq_true_eq]; omega
    go_enter Try.func68, Try.ntmps68
    go_wp2_with fail
    exact bodyPost_ret (v := .tuple #[.agg #[.int .i64 0, .int .i64 0, .int .i64 0, .int .i64 0], .int .i64 24]) (by simp [results, Try.results68, go_sem]) rfl (says_bad HG.out HB.out)
  have d5 : decide (wrap64 ((p : Int) * (q : Int)) < 65537) = false := by rw [HW.out, decide_eq_false_iff_not]; omega
  have h5i : 65537 ≤ S := by omega
  clear h6
  by_cases h7 : 2147483648 ≤ S
  · have HG : Hid (¬ GoodK p q e f) := Lib.hid (fun h => by have h8 := h.2.2.1; rw [HPQ.out] at h8; omega)
    have d6 : decide (2147483648 ≤ wrap64 ((p : Int) * (q : Int))) = true := by rw [HW.out, decide_eq_true_eq]; omega
    go_enter Try.func68, Try.ntmps68
    go_wp2_with fail
    exact bodyPost_ret (v := .tuple #[.agg #[.int .i64 0, .int .i64 0, .int .i64 0, .int .i64 0], .int .i64 24]) (by simp [results, Try.results68, go_sem]) rfl (says_bad HG.out HB.out)
  have d6 : decide (2147483648 ≤ wrap64 ((p : Int) * (q : Int))) = false := by rw [HW.out, decide_eq_false_iff_not]; omega
  have h7i : S < 2147483648 := by omega
  have m2 : 2 ≤ m := HM2.out h5i
  have m3 : m ≤ S := HMS.out
  clear h7 HM2 HMS
  have x3 : Value.int .i64 (wrap64 (((p : Int) - 1) * ((q : Int) - 1))) = Value.int .i64 (m : Int) := by rw [HMI.out, IntWalk.wrap64_in _ (by omega)]
  by_cases hp : PrimeP p
  case neg =>
    have CP := Lib.hid (fun w => rprime_no p w (by omega) (by omega) hp)
    have HG : Hid (¬ GoodK p q e f) := Lib.hid (fun h => hp (by have := h.2.2.2.2.2.2.2.2.2.1; simpa using this))
    clear hp
    go_enter Try.func68, Try.ntmps68
    go_wp2_with fail
    refine (CP.out _).mono ?_
    rintro e0 w0 ⟨rfl, rfl⟩
    go_wp2_with fail
    exact bodyPost_ret (v := .tuple #[.agg #[.int .i64 0, .int .i64 0, .int .i64 0, .int .i64 0], .int .i64 24]) (by simp [results, Try.results68, go_sem]) rfl (says_bad HG.out HB.out)
  by_cases hq : PrimeP q
  case neg =>
    have CP := Lib.hid (fun w => rprime_yes p w (by omega) (by omega) hp)
    have CQ := Lib.hid (fun w => rprime_no q w (by omega) (by omega) hq)
    have HG : Hid (¬ GoodK p q e f) := Lib.hid (fun h => hq (by have := h.2.2.2.2.2.2.2.2.2.2.1; simpa using this))
    clear hp hq
    go_enter Try.func68, Try.ntmps68
    go_wp2_with fail
    refine (CP.out _).mono ?_
    rintro e0 w0 ⟨rfl, rfl⟩
    go_wp2_with fail
    refine (CQ.out _).mono ?_
    rintro e0 w0 ⟨rfl, rfl⟩
    go_wp2_with fail
    exact bodyPost_ret (v := .tuple #[.agg #[.int .i64 0, .int .i64 0, .int .i64 0, .int .i64 0], .int .i64 24]) (by simp [results, Try.results68, go_sem]) rfl (says_bad HG.out HB.out)
  have CP := Lib.hid (fun w => rprime_yes p w (by omega) (by omega) hp)
  have CQ := Lib.hid (fun w => rprime_yes q w (by omega) (by omega) hq)
  have HP := Lib.hid hp; have HQ := Lib.hid hq; clear hp hq
  by_cases h8 : e < 3
  · have HG : Hid (¬ GoodK p q e f) := Lib.hid (fun h => by have := h.2.2.2.2.2.1; omega)
    have d8 : decide (e < 3) = true := by rw [decide_eq_true_eq]; omega
    go_enter Try.func68, Try.ntmps68
    go_wp2_with fail
    refine (CP.out _).mono ?_
    rintro e0 w0 ⟨rfl, rfl⟩
    go_wp2_with fail
    refine (CQ.out _).mono ?_
    rintro e0 w0 ⟨rfl, rfl⟩
    go_wp2_with fail
    exact bodyPost_ret (v := .tuple #[.agg #[.int .i64 0, .int .i64 0, .int .i64 0, .int .i64 0], .int .i64 24]) (by simp [results, Try.results68, go_sem]) rfl (says_bad HG.out HB.out)
  have d8 : decide (e < 3) = false := by rw [decide_eq_false_iff_not]; omega
  by_cases h9 : 65535 < e
  · have HG : Hid (¬ GoodK p q e f) := Lib.hid (fun h => by have := h.2.2.2.2.2.2.1; omega)
    have d9 : decide (65535 < e) = true := by rw [decide_eq_true_eq]; omega
    go_enter Try.func68, Try.ntmps68
    go_wp2_with fail
    refine (CP.out _).mono ?_
    rintro e0 w0 ⟨rfl, rfl⟩
    go_wp2_with fail
    refine (CQ.out _).mono ?_
    rintro e0 w0 ⟨rfl, rfl⟩
    go_wp2_with fail
    exact bodyPost_ret (v := .tuple #[.agg #[.int .i64 0, .int .i64 0, .int .i64 0, .int .i64 0], .int .i64 24]) (by simp [results, Try.results68, go_sem]) rfl (says_bad HG.out HB.out)
  have d9 : decide (65535 < e) = false := by rw [decide_eq_false_iff_not]; omega
  obtain ⟨e, rfl⟩ : ∃ n : Nat, e = n := ⟨e.toNat, by omega⟩
  have e1 : 3 ≤ e := by omega
  have e2 : e ≤ 65535 := by omega
  clear h8 h9
  by_cases h8 : (e : Int) % 2 = 0
  · have HG : Hid (¬ GoodK p q e f) := Lib.hid (fun h => by have := h.2.2.2.2.2.2.2.1; omega)
    have b8 : ((e : Int) % 2 == 0) = true := by rw [beq_iff_eq]; exact h8
    clear h8
    go_enter Try.func68, Try.ntmps68
    go_wp2_with fail
    refine (CP.out _).mono ?_
    rintro e0 w0 ⟨rfl, rfl⟩
    go_wp2_with fail
    refine (CQ.out _).mono ?_
    rintro e0 w0 ⟨rfl, rfl⟩
    go_wp2_with fail
    exact bodyPost_ret (v := .tuple #[.agg #[.int .i64 0, .int .i64 0, .int .i64 0, .int .i64 0], .int .i64 24]) (by simp [results, Try.results68, go_sem]) rfl (says_bad HG.out HB.out)
  have b8 : ((e : Int) % 2 == 0) = false := by rw [beq_eq_false_iff_ne]; exact h8
  have H8 : Hid ((e : Int) % 2 = 1) := Lib.hid (by omega)
  clear h8
  have CG := Lib.hid (fun w => common_any m e m w (Nat.le_refl _) (by omega) (by omega))
  obtain ⟨g, hg⟩ : ∃ g, Nat.gcd e m = g := ⟨_, rfl⟩
  rw [hg] at CG
  by_cases h9 : g ≠ 1
  · have HG : Hid (¬ GoodK p q e f) := Lib.hid (fun h => h9 (by have := h.2.2.2.2.2.2.2.2.2.2.2; rw [← hg]; simpa [HM.out] using this))
    have b9 : ((g : Int) != 1) = true := by rw [bne_iff_ne]; omega
    clear h9 hg
    go_enter Try.func68, Try.ntmps68
    go_wp2_with fail
    refine (CP.out _).mono ?_
    rintro e0 w0 ⟨rfl, rfl⟩
    go_wp2_with fail
    refine (CQ.out _).mono ?_
    rintro e0 w0 ⟨rfl, rfl⟩
    go_wp2_with fail
    refine (CG.out _).mono ?_
    rintro e0 w0 ⟨rfl, rfl⟩
    go_wp2_with fail
    exact bodyPost_ret (v := .tuple #[.agg #[.int .i64 0, .int .i64 0, .int .i64 0, .int .i64 0], .int .i64 24]) (by simp [results, Try.results68, go_sem]) rfl (says_bad HG.out HB.out)
  have hg1 : g = 1 := by omega
  subst hg1
  clear h9
  have HGC := Lib.hid hg; clear hg
  have b9 : ((((1 : Nat) : Int)) != 1) = false := rfl
  obtain ⟨x, hx⟩ : ∃ x, (f != 256) = x := ⟨_, rfl⟩
  obtain ⟨y, hy⟩ : ∃ y, (f != 257) = y := ⟨_, rfl⟩
  by_cases hf : x = true ∧ y = true
  · obtain ⟨rfl, rfl⟩ := hf
    have HG : Hid (¬ GoodK p q e f) := Lib.hid (fun h => by
      rcases h.2.2.2.2.2.2.2.2.1 with h | h
      · subst h; simp at hx
      · subst h; simp at hy)
    go_enter Try.func68, Try.ntmps68
    go_wp2_with fail
    refine (CP.out _).mono ?_
    rintro e0 w0 ⟨rfl, rfl⟩
    go_wp2_with fail
    refine (CQ.out _).mono ?_
    rintro e0 w0 ⟨rfl, rfl⟩
    go_wp2_with fail
    refine (CG.out _).mono ?_
    rintro e0 w0 ⟨rfl, rfl⟩
    go_wp2_with fail
    exact bodyPost_ret (v := .tuple #[.agg #[.int .i64 0, .int .i64 0, .int .i64 0, .int .i64 0], .int .i64 24]) (by simp [results, Try.results68, go_sem]) rfl (says_bad HG.out HB.out)
  have H9 : Hid (f = 256 ∨ f = 257) := Lib.hid (by
    cases x with
    | false => left; simpa using hx
    | true => cases y with
      | false => right; simpa using hy
      | true => exact absurd ⟨rfl, rfl⟩ hf)
  have hfb : (x && y) = false := by cases x <;> cases y <;> simp_all
  clear hf
  have HGOOD : Hid (GoodK p q e f) := Lib.hid ⟨by omega, by omega, by rw [HPQ.out]; omega, by have := H4.out; omega, by rw [HPQ.out]; omega, by omega, by omega, H8.out, H9.out, by simpa using HP.out, by simpa using HQ.out, by simpa [HM.out] using HGC.out⟩
  obtain ⟨d, hI⟩ := inv_of m2 HGC.out
  obtain ⟨k0, hk0, hk1⟩ := first_k (by omega) m2 hI
  have HD := Lib.hid (first_d (e := e) (by omega) hk0)
  have HO : Hid (∀ k, k ≤ k0 → (1 + k * m) % e = 0 → k = k0) := Lib.hid (fun k hk hz => first_only HGC.out hk0 hk hk1 hz)
  have HZ : Hid ((1 + k0 * m) % e = 0) := Lib.hid (by rw [← hk0]; simp)
  have HI := Lib.hid hI; clear hI hk0
  have HK1 : Hid (∀ k, k ≤ k0 → k * m ≤ 65535 * 2147483648) := Lib.hid (fun k hk => Nat.mul_le_mul (by omega) (by omega))
  cases x
  · clear hfb hy
    go_enter Try.func68, Try.ntmps68
    go_wp2_with fail
    refine (CP.out _).mono ?_
    rintro e0 w0 ⟨rfl, rfl⟩
    go_wp2_with fail
    refine (CQ.out _).mono ?_
    rintro e0 w0 ⟨rfl, rfl⟩
    go_wp2_with fail
    refine (CG.out _).mono ?_
    rintro e0 w0 ⟨rfl, rfl⟩
    go_wp2_with fail
    go_loopg [12] (k0 + 2) (fun gas kv wr => ∃ (k : Nat), kv = .int .i64 k ∧ k ≤ k0 ∧ k + gas = k0 + 2 ∧ ((w.alloc (.cells #[.int .i64 0, .int .i64 0, .int .i64 0, .int .i64 0] 34)).alloc (.cells #[.int .i64 0, .int .i64 0, .int .i64 0, .int .i64 0] 34)) = wr)
    case atStart => exact ⟨0, rfl, by omega, by omega, rfl⟩
    case round =>
      obtain ⟨k, rfl, hk, hkg, rfl⟩ := hrel
      have HK := Lib.hid hkg; clear hkg
      have hkm := HK1.out k hk
      obtain ⟨M, hM⟩ : ∃ M, k * m = M := ⟨_, rfl⟩
      rw [hM] at hkm
      have HMM := Lib.hid hM
      have x4 : Value.int .i64 (wrap64 ((k : Int) * (m : Int))) = Value.int .i64 (M : Int) := by
        have h5 : (k : Int) * (m : Int) = (M : Int) := by rw [← hM]; simp
        rw [h5, IntWalk.wrap64_in _ (by omega)]
      have hein : (1 : Int) ≤ (e : Int) := by omega
      by_cases hz : (1 + M) % e = 0
      · have hkk : k = k0 := HO.out k hk (by rw [hM]; exact hz)
        have b0 : ((1 + (M : Int)) % (e : Int) == 0) = true := by rw [beq_iff_eq]; exact_mod_cast hz
        have HDD : Hid ((1 + (M : Int)) / (e : Int) = (d : Int)) := Lib.hid (by have := HD.out; rw [← hkk, hM] at this; exact_mod_cast this)
        clear hz hkk hM
        go_wp2_with fail
        refine bodyPost_ret (v := .tuple #[.agg #[.int .i64 f, .int .i64 (wrap64 ((p : Int) * (q : Int))), .int .i64 (e : Int), .int .i64 ((1 + (M : Int)) / (e : Int))], .int .i64 0]) (by simp [results, Try.results68, go_sem]) rfl ⟨((Below.refl _ _).alloc (Nat.le_refl _) _).alloc (by rw [World.size_alloc]; omega) _, .inr ⟨HGOOD.out, d, by simpa [HM.out] using HI.out, ?_⟩⟩
        unfold keyV; rw [HW.out, HPQ.out, HDD.out]
      · have hlt : k < k0 := by
          rcases Nat.lt_or_ge k k0 with h | h
          · exact h
          · have : k = k0 := by omega
            subst this; exact absurd (by rw [← hM]; exact HZ.out) hz
        have b0 : ((1 + (M : Int)) % (e : Int) == 0) = false := by rw [beq_eq_false_iff_ne]; intro h; exact hz (by exact_mod_cast h)
        clear hz hM
        go_wp2_with fail
        have hkg := HK.out
        go_roundg (gk - 1)
        case rel => exact ⟨k + 1, by go_num, by omega, by omega, rfl⟩
        case measure => omega
  · have hyy : y = false := by simpa using hfb
    subst hyy
    clear hfb
    go_enter Try.func68, Try.ntmps68
    go_wp2_with fail
    refine (CP.out _).mono ?_
    rintro e0 w0 ⟨rfl, rfl⟩
    go_wp2_with fail
    refine (CQ.out _).mono ?_
    rintro e0 w0 ⟨rfl, rfl⟩
    go_wp2_with fail
    refine (CG.out _).mono ?_
    rintro e0 w0 ⟨rfl, rfl⟩
    go_wp2_with fail
    go_loopg [12] (k0 + 2) (fun gas kv wr => ∃ (k : Nat), kv = .int .i64 k ∧ k ≤ k0 ∧ k + gas = k0 + 2 ∧ ((w.alloc (.cells #[.int .i64 0, .int .i64 0, .int .i64 0, .int .i64 0] 34)).alloc (.cells #[.int .i64 0, .int .i64 0, .int .i64 0, .int .i64 0] 34)) = wr)
    case atStart => exact ⟨0, rfl, by omega, by omega, rfl⟩
    case round =>
      obtain ⟨k, rfl, hk, hkg, rfl⟩ := hrel
      have HK := Lib.hid hkg; clear hkg
      have hkm := HK1.out k hk
      obtain ⟨M, hM⟩ : ∃ M, k * m = M := ⟨_, rfl⟩
      rw [hM] at hkm
      have HMM := Lib.hid hM
      have x4 : Value.int .i64 (wrap64 ((k : Int) * (m : Int))) = Value.int .i64 (M : Int) := by
        have h5 : (k : Int) * (m : Int) = (M : Int) := by rw [← hM]; simp
        rw [h5, IntWalk.wrap64_in _ (by omega)]
      have hein : (1 : Int) ≤ (e : Int) := by omega
      by_cases hz : (1 + M) % e = 0
      · have hkk : k = k0 := HO.out k hk (by rw [hM]; exact hz)
        have b0 : ((1 + (M : Int)) % (e : Int) == 0) = true := by rw [beq_iff_eq]; exact_mod_cast hz
        have HDD : Hid ((1 + (M : Int)) / (e : Int) = (d : Int)) := Lib.hid (by have := HD.out; rw [← hkk, hM] at this; exact_mod_cast this)
        clear hz hkk hM
        go_wp2_with fail
        refine bodyPost_ret (v := .tuple #[.agg #[.int .i64 f, .int .i64 (wrap64 ((p : Int) * (q : Int))), .int .i64 (e : Int), .int .i64 ((1 + (M : Int)) / (e : Int))], .int .i64 0]) (by simp [results, Try.results68, go_sem]) rfl ⟨((Below.refl _ _).alloc (Nat.le_refl _) _).alloc (by rw [World.size_alloc]; omega) _, .inr ⟨HGOOD.out, d, by simpa [HM.out] using HI.out, ?_⟩⟩
        unfold keyV; rw [HW.out, HPQ.out, HDD.out]
      · have hlt : k < k0 := by
          rcases Nat.lt_or_ge k k0 with h | h
          · exact h
          · have : k = k0 := by omega
            subst this; exact absurd (by rw [← hM]; exact HZ.out) hz
        have b0 : ((1 + (M : Int)) % (e : Int) == 0) = false := by rw [beq_eq_false_iff_ne]; intro h; exact hz (by exact_mod_cast h)
        clear hz hM
        go_wp2_with fail
        have hkg := HK.out
        go_roundg (gk - 1)
        case rel => exact ⟨k + 1, by go_num, by omega, by omega, rfl⟩
        case measure => omega
end Go.Proofs.Ytjflojefpaffeaa.rnewKey
