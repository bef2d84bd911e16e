/- gazetteerref1.piece: walk. -/
import Derived.Test.YtjflojefpaffeaaEscaped
namespace Go.Proofs.Ytjflojefpaffeaa.piece
open Go.RowKit Go.Proofs.Ytjflojefpaffeaa.kit Go.Proofs.Ytjflojefpaffeaa.nspec Go.Proofs.Ytjflojefpaffeaa.readS Go.Proofs.Ytjflojefpaffeaa.escaped
set_option linter.unusedVariables false

/-- the digits behind the first byte up to place k, as a number -/
def nt (l : Bs) : Nat → Nat
  | 0 => 0
  | k + 1 => if k = 0 then 0 else nt l k * 10 + ((l.getD k 0).toNat - 48)
theorem nt_succ (l : Bs) (k : Nat) (h : 1 ≤ k) : nt l (k + 1) = nt l k * 10 + ((l.getD k 0).toNat - 48) := by
  rw [nt, if_neg (by omega)]
theorem nt_one (l : Bs) : nt l 1 = 0 := rfl
theorem piece_plain {l r : Bs} {c : UInt8} (h : l = c :: r) (hc : c.toNat ≠ 92) : pieceS l = some (c, 1) := by
  subst h; unfold pieceS; simp [hc]
theorem piece_esc {l r : Bs} {c : UInt8} (h : l = c :: r) (hc : c.toNat = 92) : pieceS l = escS r := by
  subst h; unfold pieceS; simp [hc]

set_option maxRecDepth 100000 in
set_option maxHeartbeats 2000000 in
theorem piece_any (t : ByteArray) (w : World) (hs : t.size ≤ 1099511627776) (h0 : 0 < t.size) :
    Calls Try.prog 100 #[.string t] w fun e w' => e = retE (pieceS t.data.toList) ∧ w = w' := by
  obtain ⟨R, HR⟩ : ∃ R, Hid (pieceS t.data.toList = R) := ⟨_, Lib.hid rfl⟩
  rw [HR.out]
  have hd0 := drop_cons t 0 h0
  rw [List.drop_zero] at hd0
  have HD0 := Lib.hid hd0; clear hd0
  by_cases h92 : t[0].toNat = 92
  · have h92b : ((t[0].toNat : Int) != 92) = false := by rw [bne_eq_false_iff_eq]; omega
    have HRE : Hid (escS (t.data.toList.drop (0 + 1)) = R) := Lib.hid (by rw [← HR.out]; exact (piece_esc HD0.out h92).symm)
    clear h92
    by_cases h1 : 1 < t.size
    · have h1i : (2 : Int) ≤ (t.size : Int) := by omega
      have HDR := Lib.hid (drop_cons t 1 h1)
      have hdc := digB_cases t[1]
      have hc256 := byte_lt t[1]
      by_cases hd1 : digB t[1] = true
      · have hd23 := (hdc.resolve_right (by rw [hd1]; simp)).2
        have h48 : (48 : Int) ≤ (t[1].toNat : Int) := by omega
        have h57 : (t[1].toNat : Int) ≤ 57 := by omega
        have HD1 : Hid (digAt t.data.toList 1 = true) := Lib.hid (by rw [digAt_in h1]; exact hd1)
        have HBAD : ∀ j, 1 ≤ j → j ≤ 3 → digAt t.data.toList j = false → R = none := by
          intro j hj1 hj3 hj
          rw [← HRE.out]
          refine esc_bad HDR.out hd1 ?_
          rw [digAt_drop, digAt_drop]
          have hj1' : j ≠ 1 := by rintro rfl; rw [HD1.out] at hj; cases hj
          rcases (by omega : j = 2 ∨ j = 3) with rfl | rfl
          · exact .inl hj
          · exact .inr hj
        have HB := Lib.hid HBAD; clear HBAD
        have HDG := Lib.hid hd1
        clear hdc hd1 hd23
        go_enter Try.func100, Try.ntmps100
        go_wp2
        go_loopg [4, 5] 5 (fun gas vv kv wr => ∃ (k v : Nat), kv = .int .i64 k ∧ vv = .int .i64 v ∧ 1 ≤ k ∧ k ≤ 4 ∧ k + gas = 6 ∧ v ≤ 999 ∧ Hid (v = nt t.data.toList k) ∧ Hid (v < 10 ^ (k - 1)) ∧ Hid (∀ j, 1 ≤ j → j < k → digAt t.data.toList j = true) ∧ w = wr)
        case atStart => exact ⟨1, 0, rfl, rfl, by omega, by omega, by omega, by omega, Lib.hid rfl, Lib.hid (by simp), Lib.hid (by omega), rfl⟩
        case round =>
          obtain ⟨k, v, rfl, rfl, hk1, hk4, hkg, hv9, HV, HVL, HJ, rfl⟩ := hrel
          have HKG := Lib.hid hkg; clear hkg
          have hk1i : (1 : Int) ≤ (k : Int) := by omega
          by_cases hk : k < 4
          · by_cases hlt : k < t.size
            · have hk256 := byte_lt t[k]
              obtain ⟨C, hC⟩ : ∃ C : Nat, t[k].toNat = C := ⟨_, rfl⟩
              by_cases hdk : digB t[k] = true
              · have hh := ((digB_cases t[k]).resolve_right (by rw [hdk]; simp)).2
                have hx : t.data.toList.getD k 0 = t[k] := getD_at t k hlt
                have HV2 : Hid (v * 10 + (C - 48) = nt t.data.toList (k + 1)) := Lib.hid (by rw [nt_succ _ _ hk1, ← HV.out, hx, hC])
                have hvl := HVL.out
                have HVL2 : Hid (v * 10 + (C - 48) < 10 ^ (k + 1 - 1)) := Lib.hid (by
                  have e : 10 ^ (k + 1 - 1) = 10 ^ (k - 1) * 10 := by rw [← Nat.pow_succ]; congr 1; omega
                  rw [e]; omega)
                have hp : 10 ^ (k + 1 - 1) ≤ 1000 := Nat.pow_le_pow_right (n := 10) (by omega) (show k + 1 - 1 ≤ 3 by omega)
                have hv2 := HVL2.out
                obtain ⟨V, hVV⟩ : ∃ V, v * 10 + (C - 48) = V := ⟨_, rfl⟩
                rw [hVV] at HV2 HVL2 hv2
                have HJ2 : Hid (∀ j, 1 ≤ j → j < k + 1 → digAt t.data.toList j = true) := Lib.hid (by
                  intro j a1 a2
                  rcases Nat.lt_or_ge j k with h | h
                  · exact HJ.out j a1 h
                  · have : j = k := by omega
                    subst this; rw [digAt_in hlt]; exact hdk)
                have hsum : Value.int .i64 ((v : Int) * 10 + (t[k].toNat : Int) - 48) = Value.int .i64 (V : Int) := by congr 1; omega
                have hV9 : V ≤ 999 := by omega
                have hk48 : (48 : Int) ≤ (t[k].toNat : Int) := by omega
                have hk57 : (t[k].toNat : Int) ≤ 57 := by omega
                have hvi : (v : Int) ≤ 999 := by omega
                clear hvl hp hv2 hVV hdk hh hx hC
                go_wp2
                have hkg := HKG.out
                go_roundg (gk - 1)
                case rel => exact ⟨k + 1, _, by go_num, (by first | exact hsum | rfl), by omega, by omega, by omega, hV9, HV2, HVL2, HJ2, rfl⟩
                case measure => omega
              · have hdf : digB t[k] = false := by simpa using hdk
                have HN := Lib.hid (HB.out k hk1 (by omega) (by rw [digAt_in hlt]; exact hdf))
                by_cases hk48 : (48 : Int) ≤ (t[k].toNat : Int)
                · have hk57 : (57 : Int) < (t[k].toNat : Int) := by
                    rcases Nat.lt_or_ge 57 t[k].toNat with h | h
                    · omega
                    · exact absurd (digB_yes ⟨by omega, h⟩) hdk
                  clear hdk hdf hC
                  go_wp2
                  go_ret2
                  exact ⟨by rw [HN.out]; rfl, rfl⟩
                · have hk48 : (t[k].toNat : Int) < 48 := by omega
                  clear hdk hdf hC
                  go_wp2
                  go_ret2
                  exact ⟨by rw [HN.out]; rfl, rfl⟩
            · have HN := Lib.hid (HB.out k hk1 (by omega) (digAt_out (by omega)))
              have hge : (t.size : Int) ≤ (k : Int) := by omega
              go_wp2
              go_ret2
              exact ⟨by rw [HN.out]; rfl, rfl⟩
          · have hk44 : k = 4 := by omega
            subst hk44
            have hl3 : 3 < t.size := by
              rcases Nat.lt_or_ge 3 t.size with h | h
              · exact h
              · have := HJ.out 3 (by omega) (by omega); rw [digAt_out h] at this; cases this
            have d2 : digB t[2] = true := by have := HJ.out 2 (by omega) (by omega); rwa [digAt_in (by omega)] at this
            have d3 : digB t[3] = true := by have := HJ.out 3 (by omega) (by omega); rwa [digAt_in (by omega)] at this
            have hE := esc_num (l := t.data.toList.drop (0 + 1)) (by rw [HDR.out, drop_cons t 2 (by omega), drop_cons t 3 hl3]) HDG.out d2 d3
            have hv : v = (t[1].toNat - 48) * 100 + (t[2].toNat - 48) * 10 + (t[3].toNat - 48) := by
              have e1 : t.data.toList.getD 1 0 = t[1] := getD_at t 1 h1
              have e2 : t.data.toList.getD 2 0 = t[2] := getD_at t 2 (by omega)
              have e3 : t.data.toList.getD 3 0 = t[3] := getD_at t 3 hl3
              rw [HV.out, nt_succ _ 3 (by omega), nt_succ _ 2 (by omega), nt_succ _ 1 (by omega), nt_one, e1, e2, e3]; omega
            rw [← hv, HRE.out] at hE
            have HE := Lib.hid hE
            clear hE hv d2 d3
            by_cases h255 : 255 < v
            · have h255i : (255 : Int) < (v : Int) := by omega
              go_wp2
              go_ret2
              exact ⟨by rw [HE.out, if_pos h255]; rfl, rfl⟩
            · have h255i : (v : Int) ≤ 255 := by omega
              go_wp2
              go_ret2
              exact ⟨by rw [HE.out, if_neg h255]; simp [retE]; omega, rfl⟩
      · have hdf : digB t[1] = false := by simpa using hd1
        have HN : Hid (R = some (t[1], 2)) := Lib.hid (by rw [← HRE.out]; exact esc_plain HDR.out hdf)
        by_cases h48 : (48 : Int) ≤ (t[1].toNat : Int)
        · have h57 : (57 : Int) < (t[1].toNat : Int) := by
            rcases Nat.lt_or_ge 57 t[1].toNat with h | h
            · omega
            · exact absurd (digB_yes ⟨by omega, h⟩) hd1
          clear hd1 hdf hdc
          go_enter Try.func100, Try.ntmps100
          go_wp2
          go_ret2
          exact ⟨by rw [HN.out]; rfl, rfl⟩
        · have h48 : (t[1].toNat : Int) < 48 := by omega
          clear hd1 hdf hdc
          go_enter Try.func100, Try.ntmps100
          go_wp2
          go_ret2
          exact ⟨by rw [HN.out]; rfl, rfl⟩
    · have hlt2 : (t.size : Int) < 2 := by omega
      have HN : Hid (R = none) := Lib.hid (by rw [← HRE.out]; exact esc_none (drop_end t 1 (by omega)))
      go_enter Try.func100, Try.ntmps100
      go_wp2
      go_ret2
      exact ⟨by rw [HN.out]; rfl, rfl⟩
  · have h92b : ((t[0].toNat : Int) != 92) = true := by rw [bne_iff_ne]; omega
    have HN : Hid (R = some (t[0], 1)) := Lib.hid (by rw [← HR.out]; exact piece_plain HD0.out h92)
    clear h92
    go_enter Try.func100, Try.ntmps100
    go_wp2
    go_ret2
    exact ⟨by rw [HN.out]; rfl, rfl⟩
end Go.Proofs.Ytjflojefpaffeaa.piece
