/- The law SealKeys: walk. -/
import Derived.Test.YtjflojefpaffeaaDs
import Derived.Test.YtjflojefpaffeaaRNewKey
namespace Go.Proofs.Ytjflojefpaffeaa.sealKeys
open Go.RowKit Go.Proofs.Ytjflojefpaffeaa.keysP Go.Proofs.Ytjflojefpaffeaa.newKey Go.Proofs.Ytjflojefpaffeaa.rnewKey Go.Proofs.Ytjflojefpaffeaa.kit Go.Proofs.Ytjflojefpaffeaa.pub Go.Proofs.Ytjflojefpaffeaa.tag Go.Proofs.Ytjflojefpaffeaa.hash Go.Proofs.Ytjflojefpaffeaa.ds Go.Proofs.Ytjflojefpaffeaa.nspec
set_option linter.unusedVariables false

theorem inv_one {e m a b : Nat} (hg : Nat.gcd e m = 1) (ha : Inv e m a) (hb : Inv e m b) : a = b := by
  have key : ∀ x y : Nat, Inv e m x → Inv e m y → x ≤ y → x = y := by
    intro x y hx hy hxy
    have h1 : (e * x) % m = (e * y) % m := hx.2.trans hy.2.symm
    have h2 : m ∣ e * y - e * x := Nat.dvd_of_mod_eq_zero (Nat.sub_mod_eq_zero_of_mod_eq h1.symm)
    rw [← Nat.mul_sub] at h2
    have h3 : m ∣ y - x := Nat.Coprime.dvd_of_dvd_mul_left (show Nat.Coprime m e by rw [Nat.Coprime, Nat.gcd_comm]; exact hg) h2
    rcases Nat.eq_zero_or_pos (y - x) with h4 | h4
    · omega
    · have := Nat.le_of_dvd h4 h3
      have := hy.1; omega
  rcases Nat.le_total a b with h | h
  · exact key a b ha hb h
  · exact (key b a hb ha h).symm
theorem says_val (p q e f : Int) : ∃ A B C D X : Int, ∀ (w : World) (en : Ending) (w' : World), SaysK p q e f w en w' → en = keyV A B C D X ∧ Below w.heap.size w w' := by
  by_cases hG : GoodK p q e f
  · have hG' := hG
    obtain ⟨h1, h2, h3, h4, h5, h6, h7, h8, h9, h10, h11, h12⟩ := hG
    by_cases hd : ∃ d, Inv e.toNat ((p.toNat - 1) * (q.toNat - 1)) d
    · obtain ⟨d, hI⟩ := hd
      refine ⟨f, p * q, e, d, 0, ?_⟩
      rintro w en w' ⟨hB, ⟨hn, _⟩ | ⟨_, d', hI', rfl⟩⟩
      · exact absurd hG' hn
      · rw [inv_one h12 hI' hI]; exact ⟨rfl, hB⟩
    · refine ⟨0, 0, 0, 0, 0, ?_⟩
      rintro w en w' ⟨hB, ⟨hn, _⟩ | ⟨_, d', hI', _⟩⟩
      · exact absurd hG' hn
      · exact absurd ⟨d', hI'⟩ hd
  · refine ⟨0, 0, 0, 0, 24, ?_⟩
    rintro w en w' ⟨hB, ⟨_, rfl⟩ | ⟨hy, _⟩⟩
    · exact ⟨rfl, hB⟩
    · exact absurd hy hG
theorem keep12 {W w w' : World} {b1 b2 b3 : Nat} {A B C D f m e s : Int} (h : w.cell? ⟨b1, 0, none⟩ = some (.int .i64 A) ∧ w.cell? ⟨b1, 1, none⟩ = some (.int .i64 B) ∧ w.cell? ⟨b1, 2, none⟩ = some (.int .i64 C) ∧ w.cell? ⟨b1, 3, none⟩ = some (.int .i64 D) ∧ w.cell? ⟨b2, 0, none⟩ = some (.int .i64 A) ∧ w.cell? ⟨b2, 1, none⟩ = some (.int .i64 B) ∧ w.cell? ⟨b2, 2, none⟩ = some (.int .i64 C) ∧ w.cell? ⟨b2, 3, none⟩ = some (.int .i64 D) ∧ w.cell? ⟨b3, 0, none⟩ = some (.int .i64 f) ∧ w.cell? ⟨b3, 1, none⟩ = some (.int .i64 m) ∧ w.cell? ⟨b3, 2, none⟩ = some (.int .i64 e) ∧ w.cell? ⟨b3, 3, none⟩ = some (.int .i64 s) ∧ Below W.heap.size W w) (hB : Below w.heap.size w w') (h1 : b1 < W.heap.size) (h2 : b2 < W.heap.size) (h3 : b3 < W.heap.size) :
    w'.cell? ⟨b1, 0, none⟩ = some (.int .i64 A) ∧ w'.cell? ⟨b1, 1, none⟩ = some (.int .i64 B) ∧ w'.cell? ⟨b1, 2, none⟩ = some (.int .i64 C) ∧ w'.cell? ⟨b1, 3, none⟩ = some (.int .i64 D) ∧ w'.cell? ⟨b2, 0, none⟩ = some (.int .i64 A) ∧ w'.cell? ⟨b2, 1, none⟩ = some (.int .i64 B) ∧ w'.cell? ⟨b2, 2, none⟩ = some (.int .i64 C) ∧ w'.cell? ⟨b2, 3, none⟩ = some (.int .i64 D) ∧ w'.cell? ⟨b3, 0, none⟩ = some (.int .i64 f) ∧ w'.cell? ⟨b3, 1, none⟩ = some (.int .i64 m) ∧ w'.cell? ⟨b3, 2, none⟩ = some (.int .i64 e) ∧ w'.cell? ⟨b3, 3, none⟩ = some (.int .i64 s) ∧ Below W.heap.size W w' := by
  obtain ⟨c0, c1, c2, c3, c4, c5, c6, c7, c8, c9, c10, c11, hW⟩ := h
  have l1 := Nat.lt_of_lt_of_le h1 hW.size
  have l2 := Nat.lt_of_lt_of_le h2 hW.size
  have l3 := Nat.lt_of_lt_of_le h3 hW.size
  exact ⟨(hB.cell (p := ⟨b1, 0, none⟩) l1).trans c0, (hB.cell (p := ⟨b1, 1, none⟩) l1).trans c1, (hB.cell (p := ⟨b1, 2, none⟩) l1).trans c2, (hB.cell (p := ⟨b1, 3, none⟩) l1).trans c3, (hB.cell (p := ⟨b2, 0, none⟩) l2).trans c4, (hB.cell (p := ⟨b2, 1, none⟩) l2).trans c5, (hB.cell (p := ⟨b2, 2, none⟩) l2).trans c6, (hB.cell (p := ⟨b2, 3, none⟩) l2).trans c7, (hB.cell (p := ⟨b3, 0, none⟩) l3).trans c8, (hB.cell (p := ⟨b3, 1, none⟩) l3).trans c9, (hB.cell (p := ⟨b3, 2, none⟩) l3).trans c10, (hB.cell (p := ⟨b3, 3, none⟩) l3).trans c11, hW.trans (hB.mono hW.size)⟩

theorem fin {w W wx w3 : World} (h0 : Below w.heap.size w W) (h1 : Below W.heap.size W wx) (h2 : Below wx.heap.size wx w3) : Below w.heap.size w w3 :=
  (h0.trans (h1.mono h0.size)).trans (h2.mono (Nat.le_trans h0.size h1.size))
set_option maxRecDepth 100000 in
set_option maxHeartbeats 4000000 in
theorem law (p q e0 fl f m e s : Int) (o d : ByteArray) (w : World) (i0 : (Lit.int .i64 p).wf = true) (i1 : (Lit.int .i64 q).wf = true) (i2 : (Lit.int .i64 e0).wf = true) (i3 : (Lit.int .i64 fl).wf = true) (ho : o.size ≤ 1048576) (hd : d.size ≤ 1048576) :
    Calls Try.prog 16 #[.int .i64 p, .int .i64 q, .int .i64 e0, .int .i64 fl, .agg #[.int .i64 f, .int .i64 m, .int .i64 e, .int .i64 s], .string o, .string d] w fun en w' => en = .returned (.bool true) ∧ Below w.heap.size w w' := by
  clear i0 i1 i2 i3
  obtain ⟨A, B, C, D, X, hV⟩ := says_val p q e0 fl
  have C1 := Lib.hid (fun w => (nkey_any p q e0 fl w).mono (hV w))
  have C2 := Lib.hid (fun w => (rkey_any p q e0 fl w).mono (hV w))
  clear hV
  unfold keyV at C1 C2
  obtain ⟨P, hP⟩ : ∃ P : ByteArray, (⟨(pubS f m e s).toArray⟩ : ByteArray) = P := ⟨_, rfl⟩
  have P1 := Lib.hid (fun w => pub_any f m e s w)
  have P2 := Lib.hid (fun w => rpub_any f m e s w)
  rw [hP] at P1 P2
  obtain ⟨T, hT⟩ : ∃ T : Nat, tagS d.data.toList = T := ⟨_, rfl⟩
  have T1 := Lib.hid (fun w => ntag_any d w (by omega))
  have T2 := Lib.hid (fun w => rtag_any d w (by omega))
  rw [hT] at T1 T2
  have D1 := Lib.hid (fun w => nds_any o d w (by omega) (by omega))
  have D2 := Lib.hid (fun w => rds_any o d w (by omega) (by omega))
  obtain ⟨R, hR⟩ : ∃ R, dsS o.data.toList d.data.toList = R := ⟨_, rfl⟩
  rw [hR] at D1 D2
  obtain ⟨rl, rx⟩ := R
  unfold Ret2 at D1 D2
  obtain ⟨Y, hY⟩ : ∃ Y : ByteArray, (⟨rl.toArray⟩ : ByteArray) = Y := ⟨_, rfl⟩
  simp only [hY] at D1 D2
  clear hP hT hR hY
  have hBa := Lib.hid ((Below.refl w.heap.size w).alloc (Nat.le_refl _) (.cells #[.int .i64 f, .int .i64 m, .int .i64 e, .int .i64 s] 34))
  go_enter Try.func16, Try.ntmps16
  go_wp2_with fail
  refine (C1.out _).mono ?_
  rintro en w1 ⟨rfl, hB1⟩
  have hz1 : w.heap.size < w1.heap.size := by have := hB1.size; rw [World.size_alloc] at this; omega
  have HB1 := Lib.hid hB1; clear hB1
  go_wp2_with fail
  refine (C2.out _).mono ?_
  rintro en w2 ⟨rfl, hB2⟩
  have hz2 : w1.heap.size < w2.heap.size := by have := hB2.size; rw [World.size_alloc] at this; omega
  have HB2 := Lib.hid hB2; clear hB2
  go_wp2_with fail
  obtain ⟨W, hW⟩ : ∃ W, w2.alloc (.cells #[.int .i64 A, .int .i64 B, .int .i64 C, .int .i64 D] 34) = W := ⟨_, rfl⟩
  rw [hW]
  have hWs : W.heap.size = w2.heap.size + 1 := by rw [← hW, World.size_alloc]
  have z1 : w1.heap.size < W.heap.size := by omega
  have z2 : w2.heap.size < W.heap.size := by omega
  have z3 : w.heap.size < W.heap.size := by omega
  have y0 : w.heap.size < (w.alloc (.cells #[.int .i64 f, .int .i64 m, .int .i64 e, .int .i64 s] 34)).heap.size := by rw [World.size_alloc]; omega
  have y1 : w.heap.size < (w1.alloc (.cells #[.int .i64 A, .int .i64 B, .int .i64 C, .int .i64 D] 34)).heap.size := by rw [World.size_alloc]; omega
  have y2 : w1.heap.size < (w1.alloc (.cells #[.int .i64 A, .int .i64 B, .int .i64 C, .int .i64 D] 34)).heap.size := by rw [World.size_alloc]; omega
  have c0 : W.cell? ⟨w1.heap.size, 0, none⟩ = some (.int .i64 A) := by rw [← hW, World.cell?_alloc_past _ w1.heap.size 0 (by omega)]; exact (HB2.out.cell (p := ⟨w1.heap.size, 0, none⟩) y2).trans (by rw [World.cell?_alloc_new]; rfl)
  have c1 : W.cell? ⟨w1.heap.size, 1, none⟩ = some (.int .i64 B) := by rw [← hW, World.cell?_alloc_past _ w1.heap.size 1 (by omega)]; exact (HB2.out.cell (p := ⟨w1.heap.size, 1, none⟩) y2).trans (by rw [World.cell?_alloc_new]; rfl)
  have c2 : W.cell? ⟨w1.heap.size, 2, none⟩ = some (.int .i64 C) := by rw [← hW, World.cell?_alloc_past _ w1.heap.size 2 (by omega)]; exact (HB2.out.cell (p := ⟨w1.heap.size, 2, none⟩) y2).trans (by rw [World.cell?_alloc_new]; rfl)
  have c3 : W.cell? ⟨w1.heap.size, 3, none⟩ = some (.int .i64 D) := by rw [← hW, World.cell?_alloc_past _ w1.heap.size 3 (by omega)]; exact (HB2.out.cell (p := ⟨w1.heap.size, 3, none⟩) y2).trans (by rw [World.cell?_alloc_new]; rfl)
  have c4 : W.cell? ⟨w2.heap.size, 0, none⟩ = some (.int .i64 A) := by rw [← hW, World.cell?_alloc_new]; rfl
  have c5 : W.cell? ⟨w2.heap.size, 1, none⟩ = some (.int .i64 B) := by rw [← hW, World.cell?_alloc_new]; rfl
  have c6 : W.cell? ⟨w2.heap.size, 2, none⟩ = some (.int .i64 C) := by rw [← hW, World.cell?_alloc_new]; rfl
  have c7 : W.cell? ⟨w2.heap.size, 3, none⟩ = some (.int .i64 D) := by rw [← hW, World.cell?_alloc_new]; rfl
  have c8 : W.cell? ⟨w.heap.size, 0, none⟩ = some (.int .i64 f) := by rw [← hW, World.cell?_alloc_past _ w.heap.size 0 (by omega)]; exact (HB2.out.cell (p := ⟨w.heap.size, 0, none⟩) y1).trans (by rw [World.cell?_alloc_past _ w.heap.size 0 (by omega)]; exact (HB1.out.cell (p := ⟨w.heap.size, 0, none⟩) y0).trans (by rw [World.cell?_alloc_new]; rfl))
  have c9 : W.cell? ⟨w.heap.size, 1, none⟩ = some (.int .i64 m) := by rw [← hW, World.cell?_alloc_past _ w.heap.size 1 (by omega)]; exact (HB2.out.cell (p := ⟨w.heap.size, 1, none⟩) y1).trans (by rw [World.cell?_alloc_past _ w.heap.size 1 (by omega)]; exact (HB1.out.cell (p := ⟨w.heap.size, 1, none⟩) y0).trans (by rw [World.cell?_alloc_new]; rfl))
  have c10 : W.cell? ⟨w.heap.size, 2, none⟩ = some (.int .i64 e) := by rw [← hW, World.cell?_alloc_past _ w.heap.size 2 (by omega)]; exact (HB2.out.cell (p := ⟨w.heap.size, 2, none⟩) y1).trans (by rw [World.cell?_alloc_past _ w.heap.size 2 (by omega)]; exact (HB1.out.cell (p := ⟨w.heap.size, 2, none⟩) y0).trans (by rw [World.cell?_alloc_new]; rfl))
  have c11 : W.cell? ⟨w.heap.size, 3, none⟩ = some (.int .i64 s) := by rw [← hW, World.cell?_alloc_past _ w.heap.size 3 (by omega)]; exact (HB2.out.cell (p := ⟨w.heap.size, 3, none⟩) y1).trans (by rw [World.cell?_alloc_past _ w.heap.size 3 (by omega)]; exact (HB1.out.cell (p := ⟨w.heap.size, 3, none⟩) y0).trans (by rw [World.cell?_alloc_new]; rfl))
  have HBW : Hid (Below w.heap.size w W) := Lib.hid (by
    have g1 := hBa.out.trans (HB1.out.mono hBa.out.size)
    have g2 := g1.alloc g1.size (.cells #[.int .i64 A, .int .i64 B, .int .i64 C, .int .i64 D] 34)
    have g3 := g2.trans (HB2.out.mono g2.size)
    rw [← hW]
    exact g3.alloc g3.size _)
  have hBd : Below W.heap.size W W.drew := below_drewN (Below.refl _ _) 1
  have HWs := Lib.hid hWs; have HW := Lib.hid hW; clear hWs hW hz1 hz2 y0 y1 y2
  go_region_held3 (fun w' => w'.cell? ⟨w1.heap.size, 0, none⟩ = some (.int .i64 A) ∧ w'.cell? ⟨w1.heap.size, 1, none⟩ = some (.int .i64 B) ∧ w'.cell? ⟨w1.heap.size, 2, none⟩ = some (.int .i64 C) ∧ w'.cell? ⟨w1.heap.size, 3, none⟩ = some (.int .i64 D) ∧ w'.cell? ⟨w2.heap.size, 0, none⟩ = some (.int .i64 A) ∧ w'.cell? ⟨w2.heap.size, 1, none⟩ = some (.int .i64 B) ∧ w'.cell? ⟨w2.heap.size, 2, none⟩ = some (.int .i64 C) ∧ w'.cell? ⟨w2.heap.size, 3, none⟩ = some (.int .i64 D) ∧ w'.cell? ⟨w.heap.size, 0, none⟩ = some (.int .i64 f) ∧ w'.cell? ⟨w.heap.size, 1, none⟩ = some (.int .i64 m) ∧ w'.cell? ⟨w.heap.size, 2, none⟩ = some (.int .i64 e) ∧ w'.cell? ⟨w.heap.size, 3, none⟩ = some (.int .i64 s) ∧ Below W.heap.size W w') (first | assumption | (refine ⟨?_, ?_, ?_, ?_, ?_, ?_, ?_, ?_, ?_, ?_, ?_, ?_, ?_⟩ <;> assumption))
    (first
      | (go_at_call 69; refine (P1.out _).mono ?_; rintro en w' ⟨rfl, hBz⟩; have hBz2 := keep12 (by assumption) hBz z1 z2 z3; clear hBz)
      | (go_at_call 70; refine (P2.out _).mono ?_; rintro en w' ⟨rfl, hBz⟩; have hBz2 := keep12 (by assumption) hBz z1 z2 z3; clear hBz)
      | (go_at_call 71; refine (T1.out _).mono ?_; rintro en w' ⟨rfl, rfl⟩)
      | (go_at_call 72; refine (T2.out _).mono ?_; rintro en w' ⟨rfl, rfl⟩))
  all_goals
    go_wp2_with fail
    refine (D1.out _).mono ?_
    rintro en w3 ⟨rfl, hB3⟩
    have HF := Lib.hid (fin HBW.out (‹_ ∧ _ ∧ _ ∧ _ ∧ _ ∧ _ ∧ _ ∧ _ ∧ _ ∧ _ ∧ _ ∧ _ ∧ Below W.heap.size W _›).2.2.2.2.2.2.2.2.2.2.2.2 hB3)
    clear hB3
    go_wp2_with fail
    refine (D2.out _).mono ?_
    rintro en w4 ⟨rfl, hB4⟩
    have HG := Lib.hid (HF.out.trans (hB4.mono HF.out.size))
    clear hB4
    go_wp2_with fail
    go_ret
    exact ⟨rfl, HG.out⟩
end Go.Proofs.Ytjflojefpaffeaa.sealKeys
