/- data.Types: walk. -/
import Derived.Test.YtjejmgdpjfdhjaaDoorTypesP
import Derived.Test.YtjejmgdpjfdhjaaDoorInts
import Derived.Test.YtjejmgdpjfdhjaaDoorTakes
namespace Go.Proofs.YtjejmgdpjfdhjaaDoor.typesW
open Go.RowKit Go.Proofs.YtjejmgdpjfdhjaaDoor.kit Go.Proofs.YtjejmgdpjfdhjaaDoor.nspec Go.Proofs.YtjejmgdpjfdhjaaDoor.bits Go.Proofs.YtjejmgdpjfdhjaaDoor.ints Go.Proofs.YtjejmgdpjfdhjaaDoor.fld Go.Proofs.YtjejmgdpjfdhjaaDoor.typesP Go.Proofs.YtjejmgdpjfdhjaaDoor.takes
set_option linter.unusedVariables false

/-- what Types leaves -/
def TypesPost (w : World) (d : Bs) (e : Ending) (w' : World) : Prop := Below w.heap.size w w' ∧ ((∃ (v : Value) (l : List Nat), typesS d = some l ∧ e = .returned (.tuple #[v, .int .i64 0]) ∧ w'.ownsRow w.heap.size 3 1 v l.length (l.map bitV)) ∨ (typesS d = none ∧ e = .returned (.tuple #[.slice none 0 0, .int .i64 7])))

theorem u_two {u : ByteArray} (h : 2 ≤ u.size) : u.data.toList = u[0] :: u[1] :: u.data.toList.drop 2 := by
  have h1 := drop_cons u 0 (by omega)
  have h2 := drop_cons u 1 (by omega)
  rw [List.drop_zero] at h1
  rw [h1, h2]; rfl
theorem getD_ext {u : ByteArray} (j : Nat) (h : 2 + j < u.size) : (u.data.toList.drop 2).getD j 0 = u[2 + j] := by
  rw [List.getD_eq_getElem?_getD, List.getElem?_drop]
  have h' : 2 + j < u.data.toList.length := by rw [size_len]; exact h
  rw [List.getElem?_eq_getElem h']; rfl

theorem res_none {d : Bs} {R : Option (List Nat)} (h : typesA (-1) [] d = R) (h2 : R = none) : typesS d = none := by rw [typesS_eq, h, h2]
theorem res_zero {d : Bs} {l : List Nat} (h : typesA (-1) [] d = some l) (h2 : 0 ∈ l) : typesS d = none := by rw [typesS_eq, h]; simp [h2]
theorem res_some {d : Bs} {l : List Nat} (h : typesA (-1) [] d = some l) (h2 : 0 ∉ l) : typesS d = some l := by rw [typesS_eq, h]; simp [h2]
theorem and1 {x : Int} (h₀ : 0 ≤ x) (h₁ : x < 256) : bits .and .u8 x 1 = x % 2 := bits_mask .u8 8 (by decide) (fun n h1 h2 => by rw [IntKind.wrap_u8]; omega) 1 (by decide) x h₀ h₁

set_option maxRecDepth 100000 in
set_option maxHeartbeats 8000000 in
theorem types_any (s : ByteArray) (w : World) (hs : s.size ≤ 1048576) :
    Calls Tryd.prog 8 #[.string s] w (TypesPost w s.data.toList) := by
  obtain ⟨i0, hi, hz0, hz1, hz2⟩ := info_parts infoInt
  obtain ⟨R, HR⟩ : ∃ R, Hid (typesA (-1) [] s.data.toList = R) := ⟨_, Lib.hid rfl⟩
  go_enter Tryd.func8, Tryd.ntmps8
  go_wp2_with fail
  go_loopg [0, 4, 5] (s.size + 1) (fun gas sv ov lv wr => ∃ (u : ByteArray) (L : Int) (A : List Nat), sv = .string u ∧ lv = .int .i64 L ∧ -1 ≤ L ∧ L ≤ 255 ∧ u.size + 1 ≤ gas ∧ u.size ≤ 1048576 ∧ A.length + 8 * u.size ≤ 8388608 ∧ Hid (typesA L A u.data.toList = R) ∧ wr.ownsRow w.heap.size 3 1 ov A.length (A.map bitV) ∧ Below w.heap.size w wr)
  case atStart => exact ⟨s, -1, [], rfl, rfl, by omega, by omega, by omega, hs, by simp; omega, HR, World.ownsRow_nil _ _ _ _, Below.refl _ _⟩
  case round =>
    obtain ⟨u, L, A, rfl, rfl, hL0, hL1, hgas, hus, hAu, HW, hA, hB⟩ := hrel
    obtain ⟨gk', hgk'⟩ : ∃ g, g = gk := ⟨_, rfl⟩
    rw [← hgk'] at hgas
    have HG := Lib.hid hgas; clear hgas
    have HB := Lib.hid hB
    by_cases h0 : u.size = 0
    · have he := emp_yes h0
      have HE : Hid (typesA (-1) [] s.data.toList = some A) := Lib.hid (by
        have hd : u.data.toList = [] := by rw [← Lib.toList_data]; exact he
        rw [HR.out, ← HW.out, hd, types_end])
      have hst := Lib.hid (sorted_of HE.out)
      obtain ⟨a, c, rfl, hlc, hcm, hR⟩ := RdN.of_own hA
      have HA := Lib.hid hA
      clear hA h0
      cases A with
      | nil =>
        have HF := Lib.hid (res_some HE.out (by simp))
        clear hR
        go_wp2_with fail
        go_ret2
        exact ⟨HB.out, .inl ⟨_, _, HF.out, rfl, HA.out⟩⟩
      | cons x r =>
        obtain ⟨g, o, rfl, hg, hcell⟩ := hR 0 x rfl
        unfold bitV at hcell
        simp only [Nat.add_zero] at hcell
        obtain ⟨n, hn⟩ : ∃ n, (x :: r).length = n := ⟨_, rfl⟩
        have hn1 : 1 ≤ n := by rw [← hn]; simp
        rw [hn] at hlc ⊢
        have HN := Lib.hid hn; clear hn
        have hni : (0 : Int) < (n : Int) := by omega
        have hnb : decide (0 < n) = true := by rw [decide_eq_true_eq]; omega
        by_cases hx : x = 0
        · have HF := Lib.hid (res_zero HE.out (by rw [hx]; simp))
          have hb : ((x : Int) == 0) = true := by rw [beq_iff_eq]; omega
          clear hx hR
          go_wp2_with fail
          go_ret2
          exact ⟨HB.out, .inr ⟨HF.out, rfl⟩⟩
        · have HF := Lib.hid (res_some HE.out (fun h => hx (by have := (zero_head hst.out.1).1 h; simpa using this)))
          have hb : ((x : Int) == 0) = false := by rw [beq_eq_false_iff_ne]; omega
          clear hx hR
          go_wp2_with fail
          go_ret2
          have h := HA.out
          rw [HN.out] at h
          exact ⟨HB.out, .inl ⟨_, x :: r, HF.out, rfl, by rw [HN.out]; exact h⟩⟩
    · have hne := emp_no (s := u) (by omega)
      by_cases h3 : u.size < 3
      · have HF := Lib.hid (res_none HR.out (by
          rw [← HW.out]
          by_cases h1 : u.size = 1
          · have hl : u.data.toList = u[0] :: u.data.toList.drop 1 := data_cons (by omega)
            rw [drop_end u 1 (by omega)] at hl
            rw [hl, types_one]
          · rw [u_two (by omega), types_bad]
            rw [drop_end u 2 (by omega)]
            rcases Nat.eq_zero_or_pos (u[1]'(by omega)).toNat with h4 | h4
            · right; left; omega
            · right; right; right; left; simpa using h4))
        have h3i : (u.size : Int) < 3 := by omega
        clear h3 h0 hA
        go_wp2_with fail
        go_ret2
        exact ⟨HB.out, .inr ⟨HF.out, rfl⟩⟩
      · have h3i : (3 : Int) ≤ (u.size : Int) := by omega
        have h2s : 2 ≤ u.size := by omega
        have hd := u_two (u := u) h2s
        have hml : (u.data.toList.drop 2).length = u.size - 2 := by rw [List.length_drop, size_len]
        have hlast : ∀ j, 2 + j < u.size → (u.data.toList.drop 2).getD j 0 = u.data.toList.getD (2 + j) 0 := fun j hj => by
          rw [List.getD_eq_getElem?_getD, List.getD_eq_getElem?_getD, List.getElem?_drop]
        have h1s : 1 < u.size := by omega
        have h0s : 0 < u.size := by omega
        obtain ⟨b, hb⟩ : ∃ b, u[0] = b := ⟨_, rfl⟩
        obtain ⟨n, hn⟩ : ∃ n, u[1] = n := ⟨_, rfl⟩
        rw [hb, hn] at hd
        obtain ⟨m, hm⟩ : ∃ m, u.data.toList.drop 2 = m := ⟨_, rfl⟩
        rw [hm] at hd hml hlast
        have hb256 := byte_lt b
        have hn256 := byte_lt n
        clear h3 h0
        have HD := Lib.hid hd; have HML := Lib.hid hml; have HLAST := Lib.hid hlast; have HMM := Lib.hid hm
        clear hd hml hlast hm
        have BAD : ∀ h : ((b.toNat : Int) ≤ L ∨ n.toNat < 1 ∨ 32 < n.toNat ∨ m.length < n.toNat ∨ m.getD (n.toNat - 1) 0 = 0), typesS s.data.toList = none := fun h =>
          res_none HR.out (by rw [← HW.out, HD.out, types_bad h])
        have HBAD := Lib.hid BAD; clear BAD
        by_cases c1 : (b.toNat : Int) ≤ L
        · have HF := Lib.hid (HBAD.out (.inl c1))
          clear hA
          go_wp2_with fail
          go_ret2
          exact ⟨HB.out, .inr ⟨HF.out, rfl⟩⟩
        have c1i : L < (b.toNat : Int) := by omega
        clear c1
        by_cases c2 : n.toNat < 1
        · have HF := Lib.hid (HBAD.out (.inr (.inl c2)))
          have c2i : (n.toNat : Int) < 1 := by omega
          have c2b : decide (n.toNat < 1) = true := by rw [decide_eq_true_eq]; exact c2
          clear hA c2
          go_wp2_with fail
          go_ret2
          exact ⟨HB.out, .inr ⟨HF.out, rfl⟩⟩
        have c2i : (1 : Int) ≤ (n.toNat : Int) := by omega
        have c2b : decide (n.toNat < 1) = false := by rw [decide_eq_false_iff_not]; exact c2
        clear c2
        by_cases c3 : 32 < n.toNat
        · have HF := Lib.hid (HBAD.out (.inr (.inr (.inl c3))))
          have c3i : (32 : Int) < (n.toNat : Int) := by omega
          have c3b : decide (32 < n.toNat) = true := by rw [decide_eq_true_eq]; exact c3
          clear hA c3
          go_wp2_with fail
          go_ret2
          exact ⟨HB.out, .inr ⟨HF.out, rfl⟩⟩
        have c3i : (n.toNat : Int) ≤ 32 := by omega
        have c3b : decide (32 < n.toNat) = false := by rw [decide_eq_false_iff_not]; exact c3
        clear c3
        by_cases c4 : m.length < n.toNat
        · have HF := Lib.hid (HBAD.out (.inr (.inr (.inr (.inl c4)))))
          have c4i : (u.size : Int) < 2 + (n.toNat : Int) := by have := HML.out; omega
          clear hA c4
          go_wp2_with fail
          go_ret2
          exact ⟨HB.out, .inr ⟨HF.out, rfl⟩⟩
        have c4i : 2 + (n.toNat : Int) ≤ (u.size : Int) := by have := HML.out; omega
        have HC4 := Lib.hid c4; clear c4
        have h1N : 1 + n.toNat < u.size := by omega
        obtain ⟨z, hz⟩ : ∃ z, u[1 + n.toNat] = z := ⟨_, rfl⟩
        have hz256 := byte_lt z
        have HZ : Hid (m.getD (n.toNat - 1) 0 = z) := Lib.hid (by
          rw [HLAST.out (n.toNat - 1) (by omega), show 2 + (n.toNat - 1) = 1 + n.toNat by omega, getD_at u (1 + n.toNat) h1N]; exact hz)
        by_cases c5 : z = 0
        · have HF := Lib.hid (HBAD.out (.inr (.inr (.inr (.inr (by rw [HZ.out]; exact c5))))))
          have hzb : ((z.toNat : Int) == 0) = true := by rw [c5]; rfl
          clear hA c5
          go_wp2_with fail
          go_ret2
          exact ⟨HB.out, .inr ⟨HF.out, rfl⟩⟩
        have hzb : ((z.toNat : Int) == 0) = false := by rw [beq_eq_false_iff_ne]; intro h; exact c5 (UInt8.toNat_inj.1 (by simpa using h))
        have c2n : 1 ≤ n.toNat := by omega
        have c3n : n.toNat ≤ 32 := by omega
        have hgo := types_go (last := L) (out := A) (b := b) (n := n) (m := m) (by
          rintro (h | h | h | h | h)
          · omega
          · omega
          · omega
          · exact HC4.out h
          · rw [HZ.out] at h; exact c5 h)
        have HGO : Hid (typesA (b.toNat : Int) (A ++ blockL b.toNat (m.take n.toNat)) (m.drop n.toNat) = R) := Lib.hid (by rw [← hgo, ← HD.out]; exact HW.out)
        clear hgo c5
        obtain ⟨A2, hA2⟩ : ∃ A2, A ++ blockL b.toNat (m.take n.toNat) = A2 := ⟨_, rfl⟩
        obtain ⟨BL, hBL⟩ : ∃ BL, bitsL (m.take n.toNat) = BL := ⟨_, rfl⟩
        have hBLl : BL.length = 8 * n.toNat := by rw [← hBL, bitsL_len, List.length_take]; have := HML.out; omega
        have HA2 : Hid (A ++ pickL b.toNat 0 (BL.drop 0) = A2) := Lib.hid (by rw [← hA2, List.drop_zero, ← hBL]; rfl)
        have HBIT : Hid (∀ k, k < 8 * n.toNat → ∀ (c : UInt8), (∀ h : 2 + k / 8 < u.size, u[2 + k / 8] = c) → BL[k]? = some (c.toNat / 2 ^ (7 - k % 8) % 2)) := Lib.hid (by
          intro k hk c hc
          have hml := HML.out
          have h1 := bitsL_get (m.take n.toNat) k (by rw [List.length_take]; omega)
          rw [hBL] at h1
          rw [h1]
          have h2 : 2 + k / 8 < u.size := by omega
          have h3 : (m.take n.toNat).getD (k / 8) 0 = c := by
            rw [List.getD_eq_getElem?_getD, List.getElem?_take, if_pos (by omega), ← List.getD_eq_getElem?_getD, HLAST.out (k / 8) h2, getD_at u _ h2]
            exact hc h2
          rw [h3])
        have HBLL := Lib.hid hBLl
        rw [hA2] at HGO
        clear hA2 hBL hBLl
        go_wp2_with fail
        go_loopg [4, 6, 54] (8 * n.toNat + 1) (fun gas ov _ kv wq => ∃ (k : Nat) (A' : List Nat), kv = .int .i64 k ∧ k ≤ 8 * n.toNat ∧ 8 * n.toNat + 1 ≤ k + gas ∧ Hid (A' ++ pickL b.toNat k (BL.drop k) = A2) ∧ A'.length ≤ A.length + k ∧ wq.ownsRow w.heap.size 3 1 ov A'.length (A'.map bitV) ∧ Below w.heap.size w wq)
        case atStart => exact ⟨0, A, rfl, by omega, by omega, HA2, by omega, hA, hB⟩
        case round =>
          clear hA hB HB
          obtain ⟨k, A', rfl, hk, hkg, HV, hAl, hA', hB'⟩ := hrel
          have HKG := Lib.hid hkg; clear hkg
          have HB' := Lib.hid hB'
          by_cases hlt : k < 8 * n.toNat
          · have hjb : 2 + k / 8 < u.size := by omega
            obtain ⟨c, hc⟩ : ∃ c, u[2 + k / 8] = c := ⟨_, rfl⟩
            have hc256 := byte_lt c
            have hbit := HBIT.out k hlt c (fun h => hc)
            obtain ⟨v, hv⟩ : ∃ v, c.toNat / 2 ^ (7 - k % 8) = v := ⟨_, rfl⟩
            have hv255 : v ≤ 255 := by rw [← hv]; have := Nat.div_le_self c.toNat (2 ^ (7 - k % 8)); omega
            obtain ⟨x, hx⟩ : ∃ x, v % 2 = x := ⟨_, rfl⟩
            have HXA : Hid (bits .and .u8 ((c.toNat : Int) / 2 ^ (7 - k % 8)) 1 = (x : Int)) := Lib.hid (by
              have e : (c.toNat : Int) / 2 ^ (7 - k % 8) = (v : Int) := by rw [← hv]; simp
              rw [e, and1 (by omega) (by omega)]; omega)
            rw [hv, hx] at hbit
            have HST := Lib.hid (pick_snoc HV.out hbit)
            have hji : 2 + (k : Int) / 8 < (u.size : Int) := by omega
            have hx2 : x < 2 := by omega
            clear hbit hv hx
            by_cases hx1 : x = 1
            · have hxb : (bits .and .u8 ((c.toNat : Int) / 2 ^ (7 - k % 8)) 1 == 1) = true := by rw [HXA.out, beq_iff_eq]; omega
              obtain ⟨t, ht⟩ : ∃ t, b.toNat * 256 + k = t := ⟨_, rfl⟩
              have HXT : Hid ((b.toNat : Int) * 256 + (k : Int) = (t : Int)) := Lib.hid (by omega)
              have HST2 : Hid ((A' ++ [t]) ++ pickL b.toNat (k + 1) (BL.drop (k + 1)) = A2) := Lib.hid (by rw [← ht]; simpa [hx1] using HST.out)
              have hAb : A'.length + 1 ≤ 8388609 := by omega
              have hsz := hB'.size
              clear ht HST hx1
              go_wp2_with (at_builtin; refine wpList_append_own _ rfl _ _ 22 rfl w.heap.size 3 i0 (.int .i64 0) 1 8 Tryd.underlying22 hi hz0 hz1 hz2 rfl (by decide) _ _ _ rfl (hA'.alloc _) ⟨wr.heap.size, 0, none⟩ 1 1 [.int .i64 ((b.toNat : Int) * 256 + (k : Int))] rfl rfl ?c1 ?c2 ?c3 ?c4 ?c5 ?_)
              case c1 => exact cell_one_new _ _ _
              case c2 => simp [Value.oneCell']
              case c3 => unfold maxLen; omega
              case c4 => omega
              case c5 => simp; omega
              intro v' w1 hown' hgrow hnil
              rw [HXT.out] at hown'
              have hown2 := own_snocN hown'
              have hB2 := below_append hB' hsz hA' hgrow
              clear hown' hgrow hA' hnil
              go_wp2_with fail
              have hkg := HKG.out
              go_roundg (gk - 1)
              case rel => exact ⟨k + 1, A' ++ [t], by go_num, by omega, by omega, HST2, by simp; omega, hown2, hB2⟩
              case measure => omega
            · have hxb : (bits .and .u8 ((c.toNat : Int) / 2 ^ (7 - k % 8)) 1 == 1) = false := by rw [HXA.out, beq_eq_false_iff_ne]; omega
              have HST2 : Hid (A' ++ pickL b.toNat (k + 1) (BL.drop (k + 1)) = A2) := Lib.hid (by simpa [hx1] using HST.out)
              clear hx1 HST
              go_wp2_with fail
              have hkg := HKG.out
              go_roundg (gk - 1)
              case rel => exact ⟨k + 1, A', by go_num, by omega, by omega, HST2, by omega, hA', hB'⟩
              case measure => omega
          · have hke : k = 8 * n.toNat := by omega
            have HAE := Lib.hid (pick_end HV.out (by have := HBLL.out; omega))
            have hA2l : A2.length ≤ A.length + 8 * n.toNat := by rw [← HAE.out]; omega
            rw [HAE.out] at hA'
            subst hke
            have hu2 : (u.extract (2 + n.toNat) u.size).data.toList = m.drop n.toNat := by
              rw [Lib.extract_data, List.take_of_length_le (by rw [List.length_drop, size_len]; exact Nat.le_refl _), ← HMM.out, List.drop_drop]
            have hus2 : (u.extract (2 + n.toNat) u.size).size = u.size - (2 + n.toNat) := by rw [ByteArray.size_extract]; omega
            have HU2 := Lib.hid hu2; have HUS2 := Lib.hid hus2
            clear hu2 hus2
            go_wp2_with fail
            have hG := HG.out
            go_roundg (gk' - 1)
            case rel =>
              have h2 := HUS2.out
              exact ⟨_, _, A2, rfl, rfl, by omega, by omega, by omega, by omega, by omega, by rw [HU2.out]; exact HGO, hA', hB'⟩
            case measure => omega
end Go.Proofs.YtjejmgdpjfdhjaaDoor.typesW
