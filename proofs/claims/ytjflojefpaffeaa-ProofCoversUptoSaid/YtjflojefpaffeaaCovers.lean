/- proof.Covers, the reference's Covers; the law ProofCovers: its walk. -/
import Derived.Test.YtjflojefpaffeaaRefCmp
import Derived.Test.YtjflojefpaffeaaNameC
namespace Go.Proofs.Ytjflojefpaffeaa.cov
open Go.RowKit Go.Proofs.Ytjflojefpaffeaa.kit Go.Proofs.Ytjflojefpaffeaa.check Go.Proofs.Ytjflojefpaffeaa.nspec Go.Proofs.Ytjflojefpaffeaa.rsplit Go.Proofs.Ytjflojefpaffeaa.low Go.Proofs.Ytjflojefpaffeaa.refA Go.Proofs.Ytjflojefpaffeaa.refB Go.Proofs.Ytjflojefpaffeaa.nameA Go.Proofs.Ytjflojefpaffeaa.nameB Go.Proofs.Ytjflojefpaffeaa.nameC Go.Proofs.Ytjflojefpaffeaa.ncmp Go.Proofs.Ytjflojefpaffeaa.rcmp

def ltS (a b : Bs) : Bool := decide (cmpS a b < 0)
def betS (a b x : Bs) : Bool := if ltS a b then ltS a x && ltS x b else ltS a x || ltS x b
def covS (a b x : Bs) : Bool := (split a).isSome && (split b).isSome && (split x).isSome && betS a b x
theorem lt_cases (c : Int) : (c < 0 ∧ decide (c < 0) = true) ∨ (¬ c < 0 ∧ decide (c < 0) = false) := by
  by_cases h : c < 0
  · exact .inl ⟨h, by simpa using h⟩
  · exact .inr ⟨h, by simpa using h⟩

set_option maxRecDepth 100000 in
set_option maxHeartbeats 1000000 in
theorem between_any (a b x : ByteArray) (w : World) (ha : a.size ≤ 1048576) (hb : b.size ≤ 1048576) (hx : x.size ≤ 1048576) :
    Calls Try.prog 84 #[.string a, .string b, .string x, .func (.func 41) #[] #[]] w fun e w' => e = .returned (.bool (betS a.data.toList b.data.toList x.data.toList)) ∧ Below w.heap.size w w' := by
  obtain ⟨ab, HAB⟩ : ∃ c, Hid (cmpS a.data.toList b.data.toList = c) := ⟨_, Lib.hid rfl⟩
  obtain ⟨ax, HAX⟩ : ∃ c, Hid (cmpS a.data.toList x.data.toList = c) := ⟨_, Lib.hid rfl⟩
  obtain ⟨xb, HXB⟩ : ∃ c, Hid (cmpS x.data.toList b.data.toList = c) := ⟨_, Lib.hid rfl⟩
  obtain ⟨R, HR⟩ : ∃ R, Hid ((if decide (ab < 0) then decide (ax < 0) && decide (xb < 0) else decide (ax < 0) || decide (xb < 0)) = R) := ⟨_, Lib.hid rfl⟩
  have e : betS a.data.toList b.data.toList x.data.toList = R := by unfold betS ltS; rw [HAB.out, HAX.out, HXB.out]; exact HR.out
  rw [e]
  clear e
  go_enter Try.func84, Try.ntmps84
  go_wp2_with fail
  refine (ncmp_any a b _ (by omega) (by omega)).mono ?_
  rintro e w1 ⟨rfl, hB1⟩
  rw [HAB.out]
  have hC1 := hB1
  rcases lt_cases ab with ⟨p1, d1⟩ | ⟨p1, d1⟩
  · have D1 := Lib.hid d1
    go_wp2_with fail
    refine (ncmp_any a x _ (by omega) (by omega)).mono ?_
    rintro e w2 ⟨rfl, hB2⟩
    rw [HAX.out]
    have hC2 := hC1.trans (hB2.mono hC1.size)
    rcases lt_cases ax with ⟨p2, d2⟩ | ⟨p2, d2⟩
    · have D2 := Lib.hid d2
      go_wp2_with fail
      refine (ncmp_any x b _ (by omega) (by omega)).mono ?_
      rintro e w3 ⟨rfl, hB3⟩
      rw [HXB.out]
      have hC3 := hC2.trans (hB3.mono hC2.size)
      rcases lt_cases xb with ⟨p3, d3⟩ | ⟨p3, d3⟩
      · have D3 := Lib.hid d3
        go_wp2
        go_ret
        exact ⟨ret_bool (by rw [← HR.out]; simp [D1.out, D2.out, D3.out]), hC3⟩
      · have D3 := Lib.hid d3
        go_wp2
        go_ret
        exact ⟨ret_bool (by rw [← HR.out]; simp [D1.out, D2.out, D3.out]), hC3⟩
    · have D2 := Lib.hid d2
      go_wp2
      go_ret
      exact ⟨ret_bool (by rw [← HR.out]; simp [D1.out, D2.out]), hC2⟩
  · have D1 := Lib.hid d1
    go_wp2_with fail
    refine (ncmp_any a x _ (by omega) (by omega)).mono ?_
    rintro e w2 ⟨rfl, hB2⟩
    rw [HAX.out]
    have hC2 := hC1.trans (hB2.mono hC1.size)
    rcases lt_cases ax with ⟨p2, d2⟩ | ⟨p2, d2⟩
    · have D2 := Lib.hid d2
      go_wp2
      go_ret
      exact ⟨ret_bool (by rw [← HR.out]; simp [D1.out, D2.out]), hC2⟩
    · have D2 := Lib.hid d2
      go_wp2_with fail
      refine (ncmp_any x b _ (by omega) (by omega)).mono ?_
      rintro e w3 ⟨rfl, hB3⟩
      rw [HXB.out]
      have hC3 := hC2.trans (hB3.mono hC2.size)
      rcases lt_cases xb with ⟨p3, d3⟩ | ⟨p3, d3⟩
      · have D3 := Lib.hid d3
        go_wp2
        go_ret
        exact ⟨ret_bool (by rw [← HR.out]; simp [D1.out, D2.out, D3.out]), hC3⟩
      · have D3 := Lib.hid d3
        go_wp2
        go_ret
        exact ⟨ret_bool (by rw [← HR.out]; simp [D1.out, D2.out, D3.out]), hC3⟩

theorem hu3 : Try.prog.underlying 87 = some (.array 3 9) := by kernel_rfl
theorem idx0 (a b x : ByteArray) (w : World) : Sem.run Try.prog (Instr.index 87 (Value.agg #[Value.string a, Value.string b, Value.string x]) (Value.int IntKind.i64 0)) w = .ok (.string a) w := by
  simp [Instr.index, asIntOf, run_underlying hu3, go_sem]
theorem idx1 (a b x : ByteArray) (w : World) : Sem.run Try.prog (Instr.index 87 (Value.agg #[Value.string a, Value.string b, Value.string x]) (Value.int IntKind.i64 1)) w = .ok (.string b) w := by
  simp [Instr.index, asIntOf, run_underlying hu3, go_sem]
theorem idx2 (a b x : ByteArray) (w : World) : Sem.run Try.prog (Instr.index 87 (Value.agg #[Value.string a, Value.string b, Value.string x]) (Value.int IntKind.i64 2)) w = .ok (.string x) w := by
  simp [Instr.index, asIntOf, run_underlying hu3, go_sem]

set_option maxRecDepth 100000 in
set_option maxHeartbeats 1000000 in
theorem ncovers_any (a b x : ByteArray) (w : World) (ha : a.size ≤ 1048576) (hb : b.size ≤ 1048576) (hx : x.size ≤ 1048576) :
    Calls Try.prog 29 #[.string a, .string b, .string x] w fun e w' => e = .returned (.bool (covS a.data.toList b.data.toList x.data.toList)) ∧ Below w.heap.size w w' := by
  go_enter Try.func29, Try.ntmps29
  go_wp2
  go_loopg [13] (4) (fun gas kv wr => ∃ k : Nat, kv = .int .i64 k ∧ k ≤ 3 ∧ k + gas = 4 ∧ (1 ≤ k → Hid ((split a.data.toList).isSome = true)) ∧ (2 ≤ k → Hid ((split b.data.toList).isSome = true)) ∧ (3 ≤ k → Hid ((split x.data.toList).isSome = true)) ∧ Below w.heap.size w wr)
  case atStart => exact ⟨0, rfl, by omega, by omega, fun h => absurd h (by omega), fun h => absurd h (by omega), fun h => absurd h (by omega), Below.refl _ _⟩
  case round =>
    obtain ⟨k, rfl, hk, hkg, HP1, HP2, HP3, hB⟩ := hrel
    have hc : k = 0 ∨ k = 1 ∨ k = 2 ∨ k = 3 := by omega
    rcases hc with hk0 | hk1 | hk2 | hk3
    · subst hk0
      have hix := idx0 a b x
      go_wp2_with fail
      clear hix
      refine (check_any a _ (by omega)).mono ?_
      rintro e w1 ⟨rfl, hB1⟩
      have hBB := hB.trans (hB1.mono hB.size)
      rcases isB_or a with ⟨l, h1⟩ | h1
      · have e1 := Lib.hid (chk_yes h1)
        have S1 := Lib.hid (congrArg Option.isSome (split_iff.2 h1))
        rw [e1.out]
        clear h1
        go_wp2
        go_roundg (gk - 1)
        case rel => exact ⟨1, rfl, by omega, by omega, fun h => S1, fun h => absurd h (by omega), fun h => absurd h (by omega), hBB⟩
        case measure => omega
      · have e1 := Lib.hid (chk_no h1)
        have S1 := Lib.hid (congrArg Option.isSome h1)
        rw [e1.out]
        clear h1
        go_wp2
        go_ret
        exact ⟨ret_bool (by unfold covS; rw [S1.out]; simp), hBB⟩
    · subst hk1
      have hix := idx1 a b x
      go_wp2_with fail
      clear hix
      refine (check_any b _ (by omega)).mono ?_
      rintro e w1 ⟨rfl, hB1⟩
      have hBB := hB.trans (hB1.mono hB.size)
      rcases isB_or b with ⟨l, h1⟩ | h1
      · have e1 := Lib.hid (chk_yes h1)
        have S1 := Lib.hid (congrArg Option.isSome (split_iff.2 h1))
        rw [e1.out]
        clear h1
        go_wp2
        go_roundg (gk - 1)
        case rel => exact ⟨2, rfl, by omega, by omega, fun h => HP1 (by omega), fun h => S1, fun h => absurd h (by omega), hBB⟩
        case measure => omega
      · have e1 := Lib.hid (chk_no h1)
        have S1 := Lib.hid (congrArg Option.isSome h1)
        rw [e1.out]
        clear h1
        go_wp2
        go_ret
        exact ⟨ret_bool (by unfold covS; rw [S1.out]; simp), hBB⟩
    · subst hk2
      have hix := idx2 a b x
      go_wp2_with fail
      clear hix
      refine (check_any x _ (by omega)).mono ?_
      rintro e w1 ⟨rfl, hB1⟩
      have hBB := hB.trans (hB1.mono hB.size)
      rcases isB_or x with ⟨l, h1⟩ | h1
      · have e1 := Lib.hid (chk_yes h1)
        have S1 := Lib.hid (congrArg Option.isSome (split_iff.2 h1))
        rw [e1.out]
        clear h1
        go_wp2
        go_roundg (gk - 1)
        case rel => exact ⟨3, rfl, by omega, by omega, fun h => HP1 (by omega), fun h => HP2 (by omega), fun h => S1, hBB⟩
        case measure => omega
      · have e1 := Lib.hid (chk_no h1)
        have S1 := Lib.hid (congrArg Option.isSome h1)
        rw [e1.out]
        clear h1
        go_wp2
        go_ret
        exact ⟨ret_bool (by unfold covS; rw [S1.out]; simp), hBB⟩
    · subst hk3
      have S1 := HP1 (by omega)
      have S2 := HP2 (by omega)
      have S3 := HP3 (by omega)
      clear HP1 HP2 HP3
      go_wp2_with fail
      refine (between_any a b x _ ha hb hx).mono ?_
      rintro e w1 ⟨rfl, hB1⟩
      go_wp2
      go_ret
      exact ⟨ret_bool (by unfold covS; rw [S1.out, S2.out, S3.out]; simp), hB.trans (hB1.mono hB.size)⟩

set_option maxRecDepth 100000 in
set_option maxHeartbeats 2000000 in
theorem covers_any (a b x : ByteArray) (w : World) (ha : a.size ≤ 1048576) (hb : b.size ≤ 1048576) (hx : x.size ≤ 1048576) :
    Calls Try.prog 30 #[.string a, .string b, .string x] w fun e w' => e = .returned (.bool (covS a.data.toList b.data.toList x.data.toList)) ∧ Below w.heap.size w w' := by
  obtain ⟨ab, HAB⟩ : ∃ c, Hid (cmpS a.data.toList b.data.toList = c) := ⟨_, Lib.hid rfl⟩
  obtain ⟨ax, HAX⟩ : ∃ c, Hid (cmpS a.data.toList x.data.toList = c) := ⟨_, Lib.hid rfl⟩
  obtain ⟨xb, HXB⟩ : ∃ c, Hid (cmpS x.data.toList b.data.toList = c) := ⟨_, Lib.hid rfl⟩
  obtain ⟨R, HR⟩ : ∃ R, Hid ((if decide (ab < 0) then decide (ax < 0) && decide (xb < 0) else decide (ax < 0) || decide (xb < 0)) = R) := ⟨_, Lib.hid rfl⟩
  have HE : Hid (betS a.data.toList b.data.toList x.data.toList = R) := Lib.hid (by unfold betS ltS; rw [HAB.out, HAX.out, HXB.out]; exact HR.out)
  go_enter Try.func30, Try.ntmps30
  go_wp2_with fail
  refine (isName_any a _ (by omega)).mono ?_
  rintro e w1 ⟨rfl, hB1⟩
  have hC1 := hB1
  obtain ⟨n1, hn1⟩ : ∃ n, isB a = n := ⟨_, rfl⟩
  rw [hn1]
  have HN1 : Hid ((split a.data.toList).isSome = n1) := Lib.hid hn1
  clear hn1
  cases n1
  · have HN := HN1
    go_wp2
    go_ret
    exact ⟨ret_bool (by unfold covS; rw [HN.out]; simp), hC1⟩
  · go_wp2_with fail
    refine (isName_any b _ (by omega)).mono ?_
    rintro e w2 ⟨rfl, hB2⟩
    have hC2 := hC1.trans (hB2.mono hC1.size)
    obtain ⟨n2, hn2⟩ : ∃ n, isB b = n := ⟨_, rfl⟩
    rw [hn2]
    have HN2 : Hid ((split b.data.toList).isSome = n2) := Lib.hid hn2
    clear hn2
    cases n2
    · have HN := HN2
      go_wp2
      go_ret
      exact ⟨ret_bool (by unfold covS; rw [HN.out]; simp), hC2⟩
    · go_wp2_with fail
      refine (isName_any x _ (by omega)).mono ?_
      rintro e w3 ⟨rfl, hB3⟩
      have hC3 := hC2.trans (hB3.mono hC2.size)
      obtain ⟨n3, hn3⟩ : ∃ n, isB x = n := ⟨_, rfl⟩
      rw [hn3]
      have HN3 : Hid ((split x.data.toList).isSome = n3) := Lib.hid hn3
      clear hn3
      cases n3
      · have HN := HN3
        go_wp2
        go_ret
        exact ⟨ret_bool (by unfold covS; rw [HN.out]; simp), hC3⟩
      · go_wp2_with fail
        refine (compare_any a x _ (by omega) (by omega)).mono ?_
        rintro e w4 ⟨rfl, hB4⟩
        rw [HAX.out]
        have hC4 := hC3.trans (hB4.mono hC3.size)
        go_wp2_with fail
        refine (compare_any x b _ (by omega) (by omega)).mono ?_
        rintro e w5 ⟨rfl, hB5⟩
        rw [HXB.out]
        have hC5 := hC4.trans (hB5.mono hC4.size)
        go_wp2_with fail
        refine (compare_any a b _ (by omega) (by omega)).mono ?_
        rintro e w6 ⟨rfl, hB6⟩
        rw [HAB.out]
        have hC6 := hC5.trans (hB6.mono hC5.size)
        rcases lt_cases ab with ⟨p1, d1⟩ | ⟨p1, d1⟩ <;> rcases lt_cases ax with ⟨p2, d2⟩ | ⟨p2, d2⟩ <;> rcases lt_cases xb with ⟨p3, d3⟩ | ⟨p3, d3⟩
        · have D1 := Lib.hid d1
          have D2 := Lib.hid d2
          have D3 := Lib.hid d3
          go_wp2
          go_ret
          exact ⟨ret_bool (by unfold covS; rw [HN1.out, HN2.out, HN3.out, HE.out, ← HR.out]; simp [D1.out, D2.out, D3.out]), hC6⟩
        · have D1 := Lib.hid d1
          have D2 := Lib.hid d2
          have D3 := Lib.hid d3
          go_wp2
          go_ret
          exact ⟨ret_bool (by unfold covS; rw [HN1.out, HN2.out, HN3.out, HE.out, ← HR.out]; simp [D1.out, D2.out, D3.out]), hC6⟩
        · have D1 := Lib.hid d1
          have D2 := Lib.hid d2
          have D3 := Lib.hid d3
          go_wp2
          go_ret
          exact ⟨ret_bool (by unfold covS; rw [HN1.out, HN2.out, HN3.out, HE.out, ← HR.out]; simp [D1.out, D2.out, D3.out]), hC6⟩
        · have D1 := Lib.hid d1
          have D2 := Lib.hid d2
          have D3 := Lib.hid d3
          go_wp2
          go_ret
          exact ⟨ret_bool (by unfold covS; rw [HN1.out, HN2.out, HN3.out, HE.out, ← HR.out]; simp [D1.out, D2.out, D3.out]), hC6⟩
        · have D1 := Lib.hid d1
          have D2 := Lib.hid d2
          have D3 := Lib.hid d3
          go_wp2
          go_ret
          exact ⟨ret_bool (by unfold covS; rw [HN1.out, HN2.out, HN3.out, HE.out, ← HR.out]; simp [D1.out, D2.out, D3.out]), hC6⟩
        · have D1 := Lib.hid d1
          have D2 := Lib.hid d2
          have D3 := Lib.hid d3
          go_wp2
          go_ret
          exact ⟨ret_bool (by unfold covS; rw [HN1.out, HN2.out, HN3.out, HE.out, ← HR.out]; simp [D1.out, D2.out, D3.out]), hC6⟩
        · have D1 := Lib.hid d1
          have D2 := Lib.hid d2
          have D3 := Lib.hid d3
          go_wp2
          go_ret
          exact ⟨ret_bool (by unfold covS; rw [HN1.out, HN2.out, HN3.out, HE.out, ← HR.out]; simp [D1.out, D2.out, D3.out]), hC6⟩
        · have D1 := Lib.hid d1
          have D2 := Lib.hid d2
          have D3 := Lib.hid d3
          go_wp2
          go_ret
          exact ⟨ret_bool (by unfold covS; rw [HN1.out, HN2.out, HN3.out, HE.out, ← HR.out]; simp [D1.out, D2.out, D3.out]), hC6⟩

set_option maxRecDepth 100000 in
theorem walk (a b x : ByteArray) (w : World) (ha : a.size ≤ 1048576) (hb : b.size ≤ 1048576) (hx : x.size ≤ 1048576) :
    Calls Try.prog 9 #[.string a, .string b, .string x] w fun e w' => e = .returned (.bool true) ∧ Below w.heap.size w w' := by
  obtain ⟨R, HR⟩ : ∃ R, Hid (covS a.data.toList b.data.toList x.data.toList = R) := ⟨_, Lib.hid rfl⟩
  go_enter Try.func9, Try.ntmps9
  go_wp2_with fail
  refine (ncovers_any a b x _ ha hb hx).mono ?_
  rintro e w1 ⟨rfl, hB1⟩
  rw [HR.out]
  go_wp2_with fail
  refine (covers_any a b x _ ha hb hx).mono ?_
  rintro e w2 ⟨rfl, hB2⟩
  rw [HR.out]
  go_wp2
  go_ret
  exact ⟨rfl, hB1.trans (hB2.mono hB1.size)⟩
end Go.Proofs.Ytjflojefpaffeaa.cov
