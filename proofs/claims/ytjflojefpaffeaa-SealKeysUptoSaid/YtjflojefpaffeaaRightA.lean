/- Which numbers are a key: seal.right: walk. -/
import Derived.Test.YtjflojefpaffeaaRight
namespace Go.Proofs.Ytjflojefpaffeaa.rightA
open Go.RowKit Go.Proofs.Ytjflojefpaffeaa.kit Go.Proofs.Ytjflojefpaffeaa.right
set_option linter.unusedVariables false

set_option maxRecDepth 100000 in
set_option maxHeartbeats 2000000 in
theorem right_any (f m e s : Int) (w : World) : Calls Try.prog 106 #[.agg #[.int .i64 f, .int .i64 m, .int .i64 e, .int .i64 s]] w fun en w' => en = .returned (.bool (rightB f m e s)) ∧ Below w.heap.size w w' := by
  obtain ⟨R, HR⟩ : ∃ R, Hid (rightB f m e s = R) := ⟨_, Lib.hid rfl⟩
  rw [HR.out]
  have H1 := Lib.hid (fun w => small_any m 6 w)
  have H2 := Lib.hid (fun w => small_any e 1 w)
  have H3 := Lib.hid (fun w => small_any s 1 w)
  have HR2 : Hid (((f == 256 || f == 257) && someB m 6 && someB e 1 && someB s 1) = R) := HR
  obtain ⟨x, hx⟩ : ∃ x, (f == 256) = x := ⟨_, rfl⟩
  obtain ⟨y, hy⟩ : ∃ y, (f == 257) = y := ⟨_, rfl⟩
  obtain ⟨b1, hb1⟩ : ∃ b, someB m 6 = b := ⟨_, rfl⟩
  obtain ⟨b2, hb2⟩ : ∃ b, someB e 1 = b := ⟨_, rfl⟩
  obtain ⟨b3, hb3⟩ : ∃ b, someB s 1 = b := ⟨_, rfl⟩
  rw [hx, hy, hb1, hb2, hb3] at HR2
  rw [hb1] at H1
  rw [hb2] at H2
  rw [hb3] at H3
  clear hb1 hb2 hb3 HR
  have hBa := (Below.refl w.heap.size w).alloc (Nat.le_refl _) (.cells #[.int .i64 f, .int .i64 m, .int .i64 e, .int .i64 s] 34)
  cases x
  · cases y
    · have HN : Hid (R = false) := Lib.hid (by rw [← HR2.out]; rfl)
      go_enter Try.func106, Try.ntmps106
      go_wp2_with fail
      go_ret
      exact ⟨by rw [HN.out]; rfl, hBa⟩
    · cases b1
      · have HN : Hid (R = false) := Lib.hid (by rw [← HR2.out]; rfl)
        go_enter Try.func106, Try.ntmps106
        go_wp2_with fail
        refine (H1.out _).mono ?_
        rintro e0 w1 ⟨rfl, rfl⟩
        go_wp2_with fail
        go_ret
        exact ⟨by rw [HN.out]; rfl, hBa⟩
      · cases b2
        · have HN : Hid (R = false) := Lib.hid (by rw [← HR2.out]; rfl)
          go_enter Try.func106, Try.ntmps106
          go_wp2_with fail
          refine (H1.out _).mono ?_
          rintro e0 w1 ⟨rfl, rfl⟩
          go_wp2_with fail
          refine (H2.out _).mono ?_
          rintro e0 w2 ⟨rfl, rfl⟩
          go_wp2_with fail
          go_ret
          exact ⟨by rw [HN.out]; rfl, hBa⟩
        · have HN : Hid (R = b3) := Lib.hid (by rw [← HR2.out]; cases b3 <;> rfl)
          go_enter Try.func106, Try.ntmps106
          go_wp2_with fail
          refine (H1.out _).mono ?_
          rintro e0 w1 ⟨rfl, rfl⟩
          go_wp2_with fail
          refine (H2.out _).mono ?_
          rintro e0 w2 ⟨rfl, rfl⟩
          go_wp2_with fail
          refine (H3.out _).mono ?_
          rintro e0 w3 ⟨rfl, rfl⟩
          go_wp2_with fail
          go_ret
          exact ⟨by rw [HN.out]; rfl, hBa⟩
  · clear hy
    cases b1
    · have HN : Hid (R = false) := Lib.hid (by rw [← HR2.out]; simp)
      go_enter Try.func106, Try.ntmps106
      go_wp2_with fail
      refine (H1.out _).mono ?_
      rintro e0 w1 ⟨rfl, rfl⟩
      go_wp2_with fail
      go_ret
      exact ⟨by rw [HN.out]; rfl, hBa⟩
    · cases b2
      · have HN : Hid (R = false) := Lib.hid (by rw [← HR2.out]; simp)
        go_enter Try.func106, Try.ntmps106
        go_wp2_with fail
        refine (H1.out _).mono ?_
        rintro e0 w1 ⟨rfl, rfl⟩
        go_wp2_with fail
        refine (H2.out _).mono ?_
        rintro e0 w2 ⟨rfl, rfl⟩
        go_wp2_with fail
        go_ret
        exact ⟨by rw [HN.out]; rfl, hBa⟩
      · have HN : Hid (R = b3) := Lib.hid (by rw [← HR2.out]; cases b3 <;> simp)
        go_enter Try.func106, Try.ntmps106
        go_wp2_with fail
        refine (H1.out _).mono ?_
        rintro e0 w1 ⟨rfl, rfl⟩
        go_wp2_with fail
        refine (H2.out _).mono ?_
        rintro e0 w2 ⟨rfl, rfl⟩
        go_wp2_with fail
        refine (H3.out _).mono ?_
        rintro e0 w3 ⟨rfl, rfl⟩
        go_wp2_with fail
        go_ret
        exact ⟨by rw [HN.out]; rfl, hBa⟩
end Go.Proofs.Ytjflojefpaffeaa.rightA
