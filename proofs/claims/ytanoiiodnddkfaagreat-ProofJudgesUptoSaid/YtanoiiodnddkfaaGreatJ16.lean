/- gazetteerref1.Types: walk. How many bytes a field takes: gazetteerref1.size: walk. How many bytes a name, a row of texts take: gazetteerref1.size: walk. The fields of a type: gazetteerref1.Form: walk. The fields' bytes: gazetteerref1.Parts: walk. -/
import Derived.Test.YtanoiiodnddkfaaGreatJ14
import Derived.Test.YtanoiiodnddkfaaGreatJ15
import Derived.BigQuiet
import Derived.Deep.QuietTactic
import Derived.Outline
namespace Go.Proofs.YtanoiiodnddkfaaGreat.typesR
open Go.RowKit Go.Proofs.YtanoiiodnddkfaaGreat.kit Go.Proofs.YtanoiiodnddkfaaGreat.nspec Go.Proofs.YtanoiiodnddkfaaGreat.bits Go.Proofs.YtanoiiodnddkfaaGreat.ints Go.Proofs.YtanoiiodnddkfaaGreat.fld Go.Proofs.YtanoiiodnddkfaaGreat.typesP Go.Proofs.YtanoiiodnddkfaaGreat.takes Go.Proofs.YtanoiiodnddkfaaGreat.typesW Go.Proofs.YtanoiiodnddkfaaGreat.two
set_option linter.unusedVariables false

theorem below_drewN (B : Nat) (w : World) (n : Nat) : Below B w (w.drewN n) := ⟨rfl, rfl, rfl, Nat.le_refl _, fun _ _ => rfl⟩
theorem ownsRow_below {w w' : World} {base : Nat} {e : TypeId} {size n : Nat} {v : Value} {xs : List Value} (h : w.ownsRow base e size v n xs) (hB : Below w.heap.size w w') : w'.ownsRow base e size v n xs := by
  refine ⟨h.1, ?_⟩
  rcases h.2 with h1 | ⟨g, cap, cur, h1, h2, h3, h4⟩
  · exact .inl h1
  · exact .inr ⟨g, cap, cur, h1, h2, (hB.block g (Array.getElem?_eq_some_iff.1 h3).1).trans h3, h4⟩

set_option maxRecDepth 100000 in
set_option maxHeartbeats 8000000 in
theorem rtypes_any (s : ByteArray) (w : World) (hs : s.size ≤ 1048576) :
    Calls Tryz.prog 83 #[.string s] w (TypesPost w s.data.toList) := by
  obtain ⟨i0, hi, hz0, hz1, hz2⟩ := info_parts infoInt
  obtain ⟨R, HR⟩ : ∃ R, Hid (typesA (-1) [] s.data.toList = R) := ⟨_, Lib.hid rfl⟩
  go_enter Tryz.func83, Tryz.ntmps83
  go_wp2_with fail
  go_loopg [0, 4, 5] (s.size + 1) (fun gas sv ov lv wr => ∃ (u : ByteArray) (L : Int) (A : List Nat), sv = .string u ∧ lv = .int .i64 L ∧ -1 ≤ L ∧ L ≤ 255 ∧ u.size + 1 ≤ gas ∧ u.size ≤ 1048576 ∧ A.length + 8 * u.size ≤ 8388608 ∧ Hid (typesA L A u.data.toList = R) ∧ wr.ownsRow w.heap.size 3 1 ov A.length (A.map bitV) ∧ Below w.heap.size w wr)
  case atStart => exact ⟨s, -1, [], rfl, rfl, by omega, by omega, by omega, hs, by simp; omega, HR, World.ownsRow_nil _ _ _ _, Below.refl _ _⟩
  case round =>
    obtain ⟨u, L, A, rfl, rfl, hL0, hL1, hgas, hus, hAu, HW, hA, hB⟩ := hrel
    have hB0 := hB
    obtain ⟨gk', hgk'⟩ : ∃ g, g = gk := ⟨_, rfl⟩
    rw [← hgk'] at hgas
    have HG := Lib.hid hgas; clear hgas
    have HB := Lib.hid hB
    by_cases h0 : u.size = 0
    · have he := emp_yes h0
      have HE : Hid (typesA (-1) [] s.data.toList = some A) := Lib.hid (by
        have hd : u.data.toList = [] := by rw [← Lib.toList_data]; exact he
        rw [HR.out, ← HW.out, hd, types_end])
      have HA := Lib.hid hA
      obtain ⟨a, c, rfl, hlc, hcm, hR⟩ := RdN.of_own hA
      obtain ⟨n, hn⟩ : ∃ n, A.length = n := ⟨_, rfl⟩
      rw [hn] at hlc ⊢
      have hnb : n ≤ 8388608 := by omega
      have HN := Lib.hid hn
      have HRD := Lib.hid hR
      clear hA h0 hR hn
      go_wp2_with fail
      go_loopg [11, 78] (n + 1) (fun gas _ kv wq => ∃ k : Nat, kv = .int .i64 k ∧ k ≤ n ∧ n + 1 ≤ k + gas ∧ Hid (∀ j, j < k → A[j]? ≠ some 0) ∧ wr = wq)
      case atStart => exact ⟨0, rfl, by omega, by omega, Lib.hid (by omega), rfl⟩
      case round =>
        obtain ⟨k, rfl, hk, hkg, HNZ, rfl⟩ := hrel
        have HKG := Lib.hid hkg; clear hkg
        by_cases hlt : k < n
        · obtain ⟨x, hx⟩ : ∃ x, A[k]? = some x := ⟨_, List.getElem?_eq_getElem (by have := HN.out; omega)⟩
          obtain ⟨g, o, rfl, hg, hcell⟩ := HRD.out k x hx
          unfold bitV at hcell
          by_cases hx0 : x = 0
          · have HF := Lib.hid (res_zero HE.out (by rw [hx0] at hx; exact List.mem_of_getElem? hx))
            have hb : ((x : Int) == 0) = true := by rw [beq_iff_eq]; omega
            clear hx0 hx
            go_wp2_with fail
            go_ret2
            exact ⟨HB.out, .inr ⟨HF.out, rfl⟩⟩
          · have hb : ((x : Int) == 0) = false := by rw [beq_eq_false_iff_ne]; omega
            have HNZ2 : Hid (∀ j, j < k + 1 → A[j]? ≠ some 0) := Lib.hid (fun j hj => by
              rcases Nat.lt_or_ge j k with h | h
              · exact HNZ.out j h
              · have : j = k := by omega
                subst this; rw [hx]; simpa using hx0)
            clear hx0 hx
            go_wp2_with fail
            have hkg := HKG.out
            go_roundg (gk - 1)
            case rel => exact ⟨k + 1, by go_num, by omega, by omega, HNZ2, rfl⟩
            case measure => omega
        · have HF := Lib.hid (res_some HE.out (fun h => by
            obtain ⟨j, hj⟩ := List.mem_iff_getElem?.1 h
            exact HNZ.out j (by have := (List.getElem?_eq_some_iff.1 hj).1; have := HN.out; omega) hj))
          go_wp2_with fail
          go_ret2
          have h := HA.out
          rw [HN.out] at h
          exact ⟨HB.out, .inl ⟨_, A, HF.out, rfl, by rw [HN.out]; exact h⟩⟩
    · have hne := emp_no (s := u) (by omega)
      by_cases h3 : u.size < 2
      · have HF := Lib.hid (res_none HR.out (by
          rw [← HW.out]
          have hl : u.data.toList = u[0] :: u.data.toList.drop 1 := data_cons (by omega)
          rw [drop_end u 1 (by omega)] at hl
          rw [hl, types_one]))
        have h3i : (u.size : Int) < 2 := by omega
        clear h3 h0 hA
        go_wp2_with fail
        go_ret2
        exact ⟨HB.out, .inr ⟨HF.out, rfl⟩⟩
      · have h3i : (2 : Int) ≤ (u.size : Int) := by omega
        have h2s : 2 ≤ u.size := by omega
        have hd := u_two (u := u) h2s
        have hml : (u.data.toList.drop 2).length = u.size - 2 := by rw [List.length_drop, size_len]
        have hlast : ∀ j, 2 + j < u.size → (u.data.toList.drop 2).getD j 0 = u.data.toList.getD (2 + j) 0 := fun j hj => by
          rw [List.getD_eq_getElem?_getD, List.getD_eq_getElem?_getD, List.getElem?_drop]
        have h1s : 1 < u.size := by omega
        have h0s : 0 < u.size := by omega
        obtain ⟨b, hb⟩ : ∃ b, u[0] = b := ⟨_, rfl⟩
        obtain ⟨n, hn⟩ : ∃ n, u[1] = n := ⟨_, rfl⟩
        rw [hb, hn] at hd
        obtain ⟨m, hm⟩ : ∃ m, u.data.toList.drop 2 = m := ⟨_, rfl⟩
        rw [hm] at hd hml hlast
        have hb256 := byte_lt b
        have hn256 := byte_lt n
        clear h3 h0
        have HD := Lib.hid hd; have HML := Lib.hid hml; have HLAST := Lib.hid hlast; have HMM := Lib.hid hm
        clear hd hml hlast hm
        have BAD : ∀ h : ((b.toNat : Int) ≤ L ∨ n.toNat < 1 ∨ 32 < n.toNat ∨ m.length < n.toNat ∨ m.getD (n.toNat - 1) 0 = 0), typesS s.data.toList = none := fun h =>
          res_none HR.out (by rw [← HW.out, HD.out, types_bad h])
        have HBAD := Lib.hid BAD; clear BAD
        have HA0 := Lib.hid hA; clear hA hB HB
        have HBw := Lib.hid hB0
        clear hB0
        have h1i : (1 : Int) < (u.size : Int) := by omega
        go_wp2_with fail
        go_quiet (fail)
        obtain ⟨wq, hwq⟩ : ∃ wq, wr.drewN nq = wq := ⟨_, rfl⟩
        have hA : wq.ownsRow w.heap.size 3 1 u4 A.length (A.map bitV) := by rw [← hwq]; exact HA0.out
        have hB : Below w.heap.size w wq := by rw [← hwq]; exact HBw.out.trans (below_drewN _ _ _)
        have HB := Lib.hid hB
        rw [hwq]
        clear hwq
        by_cases c1 : (b.toNat : Int) ≤ L
        · have HF := Lib.hid (HBAD.out (.inl c1))
          clear hA
          go_wp2_with fail
          go_ret2
          exact ⟨HB.out, .inr ⟨HF.out, rfl⟩⟩
        have c1i : L < (b.toNat : Int) := by omega
        clear c1
        by_cases c2 : n.toNat < 1
        · have HF := Lib.hid (HBAD.out (.inr (.inl c2)))
          have c2i : (n.toNat : Int) < 1 := by omega
          have c2b : decide (n.toNat < 1) = true := by rw [decide_eq_true_eq]; exact c2
          clear hA c2
          go_wp2_with fail
          go_ret2
          exact ⟨HB.out, .inr ⟨HF.out, rfl⟩⟩
        have c2i : (1 : Int) ≤ (n.toNat : Int) := by omega
        have c2b : decide (n.toNat < 1) = false := by rw [decide_eq_false_iff_not]; exact c2
        clear c2
        by_cases c3 : 32 < n.toNat
        · have HF := Lib.hid (HBAD.out (.inr (.inr (.inl c3))))
          have c3i : (32 : Int) < (n.toNat : Int) := by omega
          have c3b : decide (32 < n.toNat) = true := by rw [decide_eq_true_eq]; exact c3
          clear hA c3
          go_wp2_with fail
          go_ret2
          exact ⟨HB.out, .inr ⟨HF.out, rfl⟩⟩
        have c3i : (n.toNat : Int) ≤ 32 := by omega
        have c3b : decide (32 < n.toNat) = false := by rw [decide_eq_false_iff_not]; exact c3
        clear c3
        by_cases c4 : m.length < n.toNat
        · have HF := Lib.hid (HBAD.out (.inr (.inr (.inr (.inl c4)))))
          have c4i : (u.size : Int) < 2 + (n.toNat : Int) := by have := HML.out; omega
          clear hA c4
          go_wp2_with fail
          go_ret2
          exact ⟨HB.out, .inr ⟨HF.out, rfl⟩⟩
        have c4i : 2 + (n.toNat : Int) ≤ (u.size : Int) := by have := HML.out; omega
        have HC4 := Lib.hid c4; clear c4
        have h1N : 1 + n.toNat < u.size := by omega
        obtain ⟨z, hz⟩ : ∃ z, u[1 + n.toNat] = z := ⟨_, rfl⟩
        have hz256 := byte_lt z
        have HZ : Hid (m.getD (n.toNat - 1) 0 = z) := Lib.hid (by
          rw [HLAST.out (n.toNat - 1) (by omega), show 2 + (n.toNat - 1) = 1 + n.toNat by omega, getD_at u (1 + n.toNat) h1N]; exact hz)
        by_cases c5 : z = 0
        · have HF := Lib.hid (HBAD.out (.inr (.inr (.inr (.inr (by rw [HZ.out]; exact c5))))))
          have hzb : ((z.toNat : Int) == 0) = true := by rw [c5]; rfl
          clear hA c5
          go_wp2_with fail
          go_ret2
          exact ⟨HB.out, .inr ⟨HF.out, rfl⟩⟩
        have hzb : ((z.toNat : Int) == 0) = false := by rw [beq_eq_false_iff_ne]; intro h; exact c5 (UInt8.toNat_inj.1 (by simpa using h))
        have c2n : 1 ≤ n.toNat := by omega
        have c3n : n.toNat ≤ 32 := by omega
        have hgo := types_go (last := L) (out := A) (b := b) (n := n) (m := m) (by
          rintro (h | h | h | h | h)
          · omega
          · omega
          · omega
          · exact HC4.out h
          · rw [HZ.out] at h; exact c5 h)
        have HGO : Hid (typesA (b.toNat : Int) (A ++ blockL b.toNat (m.take n.toNat)) (m.drop n.toNat) = R) := Lib.hid (by rw [← hgo, ← HD.out]; exact HW.out)
        clear hgo c5
        obtain ⟨A2, hA2⟩ : ∃ A2, A ++ blockL b.toNat (m.take n.toNat) = A2 := ⟨_, rfl⟩
        obtain ⟨BL, hBL⟩ : ∃ BL, bitsL (m.take n.toNat) = BL := ⟨_, rfl⟩
        have hBLl : BL.length = 8 * n.toNat := by rw [← hBL, bitsL_len, List.length_take]; have := HML.out; omega
        have HA2 : Hid (A ++ pickL b.toNat 0 (BL.drop 0) = A2) := Lib.hid (by rw [← hA2, List.drop_zero, ← hBL]; rfl)
        have HBIT : Hid (∀ k, k < 8 * n.toNat → ∀ (c : UInt8), (∀ h : 2 + k / 8 < u.size, u[2 + k / 8] = c) → BL[k]? = some (c.toNat / 2 ^ (7 - k % 8) % 2)) := Lib.hid (by
          intro k hk c hc
          have hml := HML.out
          have h1 := bitsL_get (m.take n.toNat) k (by rw [List.length_take]; omega)
          rw [hBL] at h1
          rw [h1]
          have h2 : 2 + k / 8 < u.size := by omega
          have h3 : (m.take n.toNat).getD (k / 8) 0 = c := by
            rw [List.getD_eq_getElem?_getD, List.getElem?_take, if_pos (by omega), ← List.getD_eq_getElem?_getD, HLAST.out (k / 8) h2, getD_at u _ h2]
            exact hc h2
          rw [h3])
        have HBLL := Lib.hid hBLl
        have HBLQ := Lib.hid hBL
        rw [hA2] at HGO
        clear hA2 hBL hBLl
        have hex : (u.extract 2 (2 + n.toNat)).data.toList = m.take n.toNat := by
          rw [Lib.extract_data, HMM.out]; congr 1; omega
        have CB := Lib.hid (fun w => bits_own (u.extract 2 (2 + n.toNat)) w (by rw [ByteArray.size_extract]; omega))
        rw [hex, HBLQ.out] at CB
        clear hex
        obtain ⟨nb, hnb⟩ : ∃ nb, BL.length = nb := ⟨_, rfl⟩
        rw [hnb] at CB
        have HNB := Lib.hid hnb; clear hnb
        have hnb8 : nb = 8 * n.toNat := by rw [← HNB.out]; exact HBLL.out
        have hlow := Lib.hid (own_low hA)
        have HA := Lib.hid hA
        clear hA
        have hle1 : 2 ≤ 2 + (n.toNat : Int) := by omega
        go_wp2_with fail
        refine (CB.out _).mono ?_
        rintro e w2 ⟨vb, rfl, hob, hB2⟩
        have hhigh := Lib.hid (own_high hob)
        have hob' := hob
        rw [← HNB.out] at hob'
        obtain ⟨ab, cb, rfl, hlb, hcb, hRb⟩ := RdN.of_own hob'
        rw [HNB.out] at hlb ⊢
        have hA := ownsRow_below HA.out hB2
        have hBn := HB.out.trans (hB2.mono HB.out.size)
        have hap : Apart u4 ab := Apart.low hlow.out (fun b hb => hhigh.out b _ _ (by rw [hb]))
        have hlt0 : ∀ b, ab = some b → b.block < w2.heap.size := fun b hb => own_low hob b.block (by rw [hb]; rfl)
        have HLT := Lib.hid hlt0; have HAP := Lib.hid hap; have HBn := Lib.hid hBn; have HRb := Lib.hid hRb; have HA' := Lib.hid hA
        clear hob hob' hB2 hRb hap hlt0 hA hBn HA hlow hhigh HB HBw HA0
        go_wp2_with fail
        go_loopg [4, 9, 55] (nb + 1) (fun gas ov _ kv wq => ∃ (k : Nat) (A' : List Nat), kv = .int .i64 k ∧ k ≤ nb ∧ nb + 1 ≤ k + gas ∧ Hid (A' ++ pickL b.toNat k (BL.drop k) = A2) ∧ A'.length ≤ A.length + k ∧ wq.ownsRow w.heap.size 3 1 ov A'.length (A'.map bitV) ∧ Below w.heap.size w wq ∧ Hid (RdN wq ab BL) ∧ Hid (Apart ov ab) ∧ Hid (∀ b, ab = some b → b.block < wq.heap.size))
        case atStart => exact ⟨0, A, rfl, by omega, by omega, HA2, by omega, HA'.out, HBn.out, HRb, HAP, HLT⟩
        case round =>
          clear HRb HAP HLT HA' HBn
          obtain ⟨k, A', rfl, hk, hkg, HV, hAl, hA', hB', HRb, HAP, HLT⟩ := hrel
          have HKG := Lib.hid hkg; clear hkg
          have HB' := Lib.hid hB'
          by_cases hlt : k < nb
          · obtain ⟨x, hx⟩ : ∃ x, BL[k]? = some x := ⟨_, List.getElem?_eq_getElem (by have := HNB.out; omega)⟩
            obtain ⟨g, o, rfl, hg, hcell⟩ := HRb.out k x hx
            unfold bitV at hcell
            have HST := Lib.hid (pick_snoc HV.out hx)
            clear hx
            by_cases hx1 : x = 1
            · have hxb : ((x : Int) == 1) = true := by rw [beq_iff_eq]; omega
              obtain ⟨t, ht⟩ : ∃ t, b.toNat * 256 + k = t := ⟨_, rfl⟩
              have HXT : Hid ((b.toNat : Int) * 256 + (k : Int) = (t : Int)) := Lib.hid (by omega)
              have HST2 : Hid ((A' ++ [t]) ++ pickL b.toNat (k + 1) (BL.drop (k + 1)) = A2) := Lib.hid (by rw [← ht]; simpa [hx1] using HST.out)
              have hAb : A'.length + 1 ≤ 8388609 := by omega
              have hsz := hB'.size
              clear ht HST hx1
              go_wp2_with (at_builtin; refine wpList_append_own_at _ rfl _ _ 43 rfl w.heap.size 3 i0 (.int .i64 0) 1 8 Tryz.underlying43 hi hz0 hz1 hz2 rfl (by decide) _ _ _ rfl (hA'.alloc _) ⟨wr.heap.size, 0, none⟩ 1 1 [.int .i64 ((b.toNat : Int) * 256 + (k : Int))] rfl rfl ?c1 ?c2 ?c3 ?c4 ?c5 ?_)
              case c1 => exact cell_one_new _ _ _
              case c2 => simp [Value.oneCell']
              case c3 => unfold maxLen; omega
              case c4 => omega
              case c5 => simp; omega
              intro v' w1 hown' hgrow hnil hat
              rw [HXT.out] at hown'
              have hown2 := own_snocN hown'
              have hB2 := below_append hB' hsz hA' hgrow
              have HRb2 := Lib.hid (RdN.kept HRb.out hgrow HAP.out)
              have HAP2 := Lib.hid (Apart.next HAP.out HLT.out hat)
              have HLT2 : Hid (∀ b, some (⟨g, o, none⟩ : Addr) = some b → b.block < w1.heap.size) := Lib.hid (fun b hb => by
                have h1 := HLT.out b hb
                have h2 := hgrow.size
                rw [World.size_alloc] at h2; omega)
              clear hown' hgrow hA' hnil hat
              go_wp2_with fail
              have hkg := HKG.out
              go_roundg (gk - 1)
              case rel => exact ⟨k + 1, A' ++ [t], by go_num, by omega, by omega, HST2, by simp; omega, hown2, hB2, HRb2, HAP2, HLT2⟩
              case measure => omega
            · have hxb : ((x : Int) == 1) = false := by rw [beq_eq_false_iff_ne]; omega
              have HST2 : Hid (A' ++ pickL b.toNat (k + 1) (BL.drop (k + 1)) = A2) := Lib.hid (by simpa [hx1] using HST.out)
              clear hx1 HST
              go_wp2_with fail
              have hkg := HKG.out
              go_roundg (gk - 1)
              case rel => exact ⟨k + 1, A', by go_num, by omega, by omega, HST2, by omega, hA', hB', HRb, HAP, HLT⟩
              case measure => omega
          · have hke : k = nb := by omega
            have HAE := Lib.hid (pick_end HV.out (by have := HNB.out; omega))
            have hA2l : A2.length ≤ A.length + 8 * n.toNat := by rw [← HAE.out]; omega
            rw [HAE.out] at hA'
            subst hke
            have hu2 : (u.extract (2 + n.toNat) u.size).data.toList = m.drop n.toNat := by
              rw [Lib.extract_data, List.take_of_length_le (by rw [List.length_drop, size_len]; exact Nat.le_refl _), ← HMM.out, List.drop_drop]
            have hus2 : (u.extract (2 + n.toNat) u.size).size = u.size - (2 + n.toNat) := by rw [ByteArray.size_extract]; omega
            have HU2 := Lib.hid hu2; have HUS2 := Lib.hid hus2
            clear hu2 hus2
            go_wp2_with fail
            have hG := HG.out
            go_roundg (gk' - 1)
            case rel =>
              have h2 := HUS2.out
              exact ⟨_, _, A2, rfl, rfl, by omega, by omega, by omega, by omega, by omega, by rw [HU2.out]; exact HGO, hA', hB'⟩
            case measure => omega
end Go.Proofs.YtanoiiodnddkfaaGreat.typesR
namespace Go.Proofs.YtanoiiodnddkfaaGreat.rsize
open Go.RowKit Go.Proofs.YtanoiiodnddkfaaGreat.kit Go.Proofs.YtanoiiodnddkfaaGreat.nspec Go.Proofs.YtanoiiodnddkfaaGreat.rsplit Go.Proofs.YtanoiiodnddkfaaGreat.fld Go.Proofs.YtanoiiodnddkfaaGreat.takes Go.Proofs.YtanoiiodnddkfaaGreat.hostP Go.Proofs.YtanoiiodnddkfaaGreat.hostT Go.Proofs.YtanoiiodnddkfaaGreat.textsT Go.Proofs.YtanoiiodnddkfaaGreat.typesW Go.Proofs.YtanoiiodnddkfaaGreat.typesR
set_option linter.unusedVariables false

def letterOf : Fld → Nat
  | .num k => 48 + k | .ip4 => 97 | .ip6 => 54 | .host => 110 | .text => 116 | .texts => 84 | .tail => 114 | .hexes => 104 | .b64 => 98 | .kind => 107 | .kinds => 75 | .salt => 115 | .hash => 72
theorem kind_list : ∀ (d : Bs), 2 ≤ d.length → takeS .kind d = if (d.take 2 == [0, 0]) = true then -1 else 2
  | [], h => by simp at h
  | [x], h => by simp at h
  | x :: y :: r, h => by
    show (if (r.length + 1 + 1) < 2 ∨ (x = 0 ∧ y = 0) then (-1 : Int) else 2) = if ([x, y] == [0, 0]) = true then -1 else 2
    by_cases hxy : x = 0 ∧ y = 0
    · rw [if_pos (.inr hxy), if_pos (by rw [hxy.1, hxy.2]; rfl)]
    · have hn : ¬ ((r.length + 1 + 1) < 2 ∨ (x = 0 ∧ y = 0)) := by
        rintro (h | h)
        · omega
        · exact hxy h
      have hm : ¬ (([x, y] == [0, 0]) = true) := by simpa using hxy
      rw [if_neg hn, if_neg hm]
def SaysSz (f : Fld) (s : ByteArray) (w : World) (e : Ending) (w' : World) : Prop := e = .returned (.int .i64 (takeS f s.data.toList)) ∧ Below w.heap.size w w'

set_option maxRecDepth 100000 in
set_option maxHeartbeats 2000000 in
theorem size_1 (s : ByteArray) (w : World) (hs : s.size ≤ 65535) : Calls Tryz.prog 103 #[.int .u8 49, .string s] w (SaysSz (.num 1) s w) := by
  have HE : Hid (takeS (.num 1) s.data.toList = if s.size < 1 then -1 else 1) := Lib.hid (by simp only [takeS]; rw [size_len]; rfl)
  unfold SaysSz
  rw [HE.out]
  by_cases h : s.size < 1
  · rw [if_pos h]
    have hi : (s.size : Int) < 1 := by omega
    go_enter Tryz.func103, Tryz.ntmps103
    go_wp2_with fail
    go_ret
    exact ⟨rfl, Below.refl _ _⟩
  · rw [if_neg h]
    have hi : (1 : Int) ≤ (s.size : Int) := by omega
    go_enter Tryz.func103, Tryz.ntmps103
    go_wp2_with fail
    go_ret
    exact ⟨rfl, Below.refl _ _⟩

set_option maxRecDepth 100000 in
set_option maxHeartbeats 2000000 in
theorem size_2 (s : ByteArray) (w : World) (hs : s.size ≤ 65535) : Calls Tryz.prog 103 #[.int .u8 50, .string s] w (SaysSz (.num 2) s w) := by
  have HE : Hid (takeS (.num 2) s.data.toList = if s.size < 2 then -1 else 2) := Lib.hid (by simp only [takeS]; rw [size_len]; rfl)
  unfold SaysSz
  rw [HE.out]
  by_cases h : s.size < 2
  · rw [if_pos h]
    have hi : (s.size : Int) < 2 := by omega
    go_enter Tryz.func103, Tryz.ntmps103
    go_wp2_with fail
    go_ret
    exact ⟨rfl, Below.refl _ _⟩
  · rw [if_neg h]
    have hi : (2 : Int) ≤ (s.size : Int) := by omega
    go_enter Tryz.func103, Tryz.ntmps103
    go_wp2_with fail
    go_ret
    exact ⟨rfl, Below.refl _ _⟩

set_option maxRecDepth 100000 in
set_option maxHeartbeats 2000000 in
theorem size_4 (s : ByteArray) (w : World) (hs : s.size ≤ 65535) : Calls Tryz.prog 103 #[.int .u8 52, .string s] w (SaysSz (.num 4) s w) := by
  have HE : Hid (takeS (.num 4) s.data.toList = if s.size < 4 then -1 else 4) := Lib.hid (by simp only [takeS]; rw [size_len]; rfl)
  unfold SaysSz
  rw [HE.out]
  by_cases h : s.size < 4
  · rw [if_pos h]
    have hi : (s.size : Int) < 4 := by omega
    go_enter Tryz.func103, Tryz.ntmps103
    go_wp2_with fail
    go_ret
    exact ⟨rfl, Below.refl _ _⟩
  · rw [if_neg h]
    have hi : (4 : Int) ≤ (s.size : Int) := by omega
    go_enter Tryz.func103, Tryz.ntmps103
    go_wp2_with fail
    go_ret
    exact ⟨rfl, Below.refl _ _⟩

set_option maxRecDepth 100000 in
set_option maxHeartbeats 2000000 in
theorem size_ip4 (s : ByteArray) (w : World) (hs : s.size ≤ 65535) : Calls Tryz.prog 103 #[.int .u8 97, .string s] w (SaysSz .ip4 s w) := by
  have HE : Hid (takeS .ip4 s.data.toList = if s.size < 4 then -1 else 4) := Lib.hid (by simp only [takeS]; rw [size_len])
  unfold SaysSz
  rw [HE.out]
  by_cases h : s.size < 4
  · rw [if_pos h]
    have hi : (s.size : Int) < 4 := by omega
    go_enter Tryz.func103, Tryz.ntmps103
    go_wp2_with fail
    go_ret
    exact ⟨rfl, Below.refl _ _⟩
  · rw [if_neg h]
    have hi : (4 : Int) ≤ (s.size : Int) := by omega
    go_enter Tryz.func103, Tryz.ntmps103
    go_wp2_with fail
    go_ret
    exact ⟨rfl, Below.refl _ _⟩

set_option maxRecDepth 100000 in
set_option maxHeartbeats 2000000 in
theorem size_ip6 (s : ByteArray) (w : World) (hs : s.size ≤ 65535) : Calls Tryz.prog 103 #[.int .u8 54, .string s] w (SaysSz .ip6 s w) := by
  have HE : Hid (takeS .ip6 s.data.toList = if s.size < 16 then -1 else 16) := Lib.hid (by simp only [takeS]; rw [size_len])
  unfold SaysSz
  rw [HE.out]
  by_cases h : s.size < 16
  · rw [if_pos h]
    have hi : (s.size : Int) < 16 := by omega
    go_enter Tryz.func103, Tryz.ntmps103
    go_wp2_with fail
    go_ret
    exact ⟨rfl, Below.refl _ _⟩
  · rw [if_neg h]
    have hi : (16 : Int) ≤ (s.size : Int) := by omega
    go_enter Tryz.func103, Tryz.ntmps103
    go_wp2_with fail
    go_ret
    exact ⟨rfl, Below.refl _ _⟩

set_option maxRecDepth 100000 in
set_option maxHeartbeats 2000000 in
theorem size_tail (s : ByteArray) (w : World) (hs : s.size ≤ 65535) : Calls Tryz.prog 103 #[.int .u8 114, .string s] w (SaysSz .tail s w) := by
  have HE : Hid (takeS .tail s.data.toList = (s.size : Int)) := Lib.hid (by simp only [takeS]; rw [size_len])
  unfold SaysSz
  rw [HE.out]
  go_enter Tryz.func103, Tryz.ntmps103
  go_wp2_with fail
  go_ret
  exact ⟨rfl, Below.refl _ _⟩

set_option maxRecDepth 100000 in
set_option maxHeartbeats 2000000 in
theorem size_hexes (s : ByteArray) (w : World) (hs : s.size ≤ 65535) : Calls Tryz.prog 103 #[.int .u8 104, .string s] w (SaysSz .hexes s w) := by
  unfold SaysSz
  by_cases h0 : s.size = 0
  · have he := emp_yes h0
    have HE : Hid (takeS .hexes s.data.toList = -1) := Lib.hid (by rw [← Lib.toList_data, he]; rfl)
    rw [HE.out]
    clear h0
    go_enter Tryz.func103, Tryz.ntmps103
    go_wp2_with fail
    go_ret
    exact ⟨rfl, Below.refl _ _⟩
  · have he := emp_no (s := s) (by omega)
    have HE : Hid (takeS .hexes s.data.toList = (s.size : Int)) := Lib.hid (by simp only [takeS, someS]; rw [if_neg (by intro h; rw [← size_len, h] at h0; simp at h0), size_len])
    rw [HE.out]
    clear h0
    go_enter Tryz.func103, Tryz.ntmps103
    go_wp2_with fail
    go_ret
    exact ⟨rfl, Below.refl _ _⟩

set_option maxRecDepth 100000 in
set_option maxHeartbeats 2000000 in
theorem size_b64 (s : ByteArray) (w : World) (hs : s.size ≤ 65535) : Calls Tryz.prog 103 #[.int .u8 98, .string s] w (SaysSz .b64 s w) := by
  unfold SaysSz
  by_cases h0 : s.size = 0
  · have he := emp_yes h0
    have HE : Hid (takeS .b64 s.data.toList = -1) := Lib.hid (by rw [← Lib.toList_data, he]; rfl)
    rw [HE.out]
    clear h0
    go_enter Tryz.func103, Tryz.ntmps103
    go_wp2_with fail
    go_ret
    exact ⟨rfl, Below.refl _ _⟩
  · have he := emp_no (s := s) (by omega)
    have HE : Hid (takeS .b64 s.data.toList = (s.size : Int)) := Lib.hid (by simp only [takeS, someS]; rw [if_neg (by intro h; rw [← size_len, h] at h0; simp at h0), size_len])
    rw [HE.out]
    clear h0
    go_enter Tryz.func103, Tryz.ntmps103
    go_wp2_with fail
    go_ret
    exact ⟨rfl, Below.refl _ _⟩

set_option maxRecDepth 100000 in
set_option maxHeartbeats 2000000 in
theorem size_text (s : ByteArray) (w : World) (hs : s.size ≤ 65535) : Calls Tryz.prog 103 #[.int .u8 116, .string s] w (SaysSz .text s w) := by
  unfold SaysSz
  have H0 : Hid (takeS .text s.data.toList = textS s.data.toList) := Lib.hid rfl
  rw [H0.out]
  by_cases h0 : s.size = 0
  · have HE : Hid (textS s.data.toList = -1) := Lib.hid (by rw [← Lib.toList_data, emp_yes h0]; rfl)
    rw [HE.out]
    have hb : ((s.size : Int) == 0) = true := by rw [beq_iff_eq]; omega
    clear h0
    go_enter Tryz.func103, Tryz.ntmps103
    go_wp2_with fail
    go_ret
    exact ⟨rfl, Below.refl _ _⟩
  · have h1 : 0 < s.size := by omega
    have HT := Lib.hid (textS_at h1)
    rw [HT.out]
    have hb : ((s.size : Int) == 0) = false := by rw [beq_eq_false_iff_ne]; omega
    obtain ⟨c, hc⟩ : ∃ c, s[0] = c := ⟨_, rfl⟩
    have hc256 := byte_lt c
    rw [hc]
    clear h0
    by_cases h2 : (s.size : Int) ≤ (c.toNat : Int)
    · rw [if_pos h2]
      have h3 : (s.size : Int) < 1 + (c.toNat : Int) := by omega
      go_enter Tryz.func103, Tryz.ntmps103
      go_wp2_with fail
      go_ret
      exact ⟨rfl, Below.refl _ _⟩
    · rw [if_neg h2]
      have h3 : 1 + (c.toNat : Int) ≤ (s.size : Int) := by omega
      clear h2
      go_enter Tryz.func103, Tryz.ntmps103
      go_wp2_with fail
      go_ret
      exact ⟨rfl, Below.refl _ _⟩

set_option maxRecDepth 100000 in
set_option maxHeartbeats 2000000 in
theorem size_salt (s : ByteArray) (w : World) (hs : s.size ≤ 65535) : Calls Tryz.prog 103 #[.int .u8 115, .string s] w (SaysSz .salt s w) := by
  unfold SaysSz
  have H0 : Hid (takeS .salt s.data.toList = textS s.data.toList) := Lib.hid rfl
  rw [H0.out]
  by_cases h0 : s.size = 0
  · have HE : Hid (textS s.data.toList = -1) := Lib.hid (by rw [← Lib.toList_data, emp_yes h0]; rfl)
    rw [HE.out]
    have hb : ((s.size : Int) == 0) = true := by rw [beq_iff_eq]; omega
    clear h0
    go_enter Tryz.func103, Tryz.ntmps103
    go_wp2_with fail
    go_ret
    exact ⟨rfl, Below.refl _ _⟩
  · have h1 : 0 < s.size := by omega
    have HT := Lib.hid (textS_at h1)
    rw [HT.out]
    have hb : ((s.size : Int) == 0) = false := by rw [beq_eq_false_iff_ne]; omega
    obtain ⟨c, hc⟩ : ∃ c, s[0] = c := ⟨_, rfl⟩
    have hc256 := byte_lt c
    rw [hc]
    clear h0
    by_cases h2 : (s.size : Int) ≤ (c.toNat : Int)
    · rw [if_pos h2]
      have h3 : (s.size : Int) < 1 + (c.toNat : Int) := by omega
      go_enter Tryz.func103, Tryz.ntmps103
      go_wp2_with fail
      go_ret
      exact ⟨rfl, Below.refl _ _⟩
    · rw [if_neg h2]
      have h3 : 1 + (c.toNat : Int) ≤ (s.size : Int) := by omega
      clear h2
      go_enter Tryz.func103, Tryz.ntmps103
      go_wp2_with fail
      go_ret
      exact ⟨rfl, Below.refl _ _⟩

set_option maxRecDepth 100000 in
set_option maxHeartbeats 2000000 in
theorem size_hash (s : ByteArray) (w : World) (hs : s.size ≤ 65535) : Calls Tryz.prog 103 #[.int .u8 72, .string s] w (SaysSz .hash s w) := by
  unfold SaysSz
  by_cases h0 : s.size = 0
  · have HE : Hid (takeS .hash s.data.toList = -1) := Lib.hid (by rw [← Lib.toList_data, emp_yes h0]; rfl)
    rw [HE.out]
    have hb : ((s.size : Int) == 0) = true := by rw [beq_iff_eq]; omega
    clear h0
    go_enter Tryz.func103, Tryz.ntmps103
    go_wp2_with fail
    go_ret
    exact ⟨rfl, Below.refl _ _⟩
  · have h1 : 0 < s.size := by omega
    have hb : ((s.size : Int) == 0) = false := by rw [beq_eq_false_iff_ne]; omega
    have ht := textS_at h1
    have hd := data_cons h1
    obtain ⟨c, hc⟩ : ∃ c, s[0] = c := ⟨_, rfl⟩
    have hc256 := byte_lt c
    rw [hc] at ht hd
    clear h0
    by_cases h2 : (s.size : Int) ≤ (c.toNat : Int)
    · have HE : Hid (takeS .hash s.data.toList = -1) := Lib.hid (by
        simp only [takeS]; rw [ht, if_pos h2]; split <;> rfl)
      rw [HE.out]
      have h3 : (s.size : Int) < 1 + (c.toNat : Int) := by omega
      clear ht hd
      go_enter Tryz.func103, Tryz.ntmps103
      go_wp2_with fail
      go_ret
      exact ⟨rfl, Below.refl _ _⟩
    · have h3 : 1 + (c.toNat : Int) ≤ (s.size : Int) := by omega
      by_cases hz : c = 0
      · have HE : Hid (takeS .hash s.data.toList = -1) := Lib.hid (by simp only [takeS]; rw [if_pos (.inr (by rw [hd]; exact hz))])
        rw [HE.out]
        have hzb : ((c.toNat : Int) == 0) = true := by rw [hz]; rfl
        clear ht hd h2 hz
        go_enter Tryz.func103, Tryz.ntmps103
        go_wp2_with fail
        go_ret
        exact ⟨rfl, Below.refl _ _⟩
      · have HE : Hid (takeS .hash s.data.toList = 1 + (c.toNat : Int)) := Lib.hid (by
          have hn : ¬ (s.data.toList = [] ∨ s.data.toList.getD 0 0 = 0) := by
            rintro (h | h)
            · rw [h] at hd; simp at hd
            · rw [hd] at h; exact hz h
          simp only [takeS]; rw [if_neg hn, ht, if_neg h2]; simp)
        rw [HE.out]
        have hzb : ((c.toNat : Int) == 0) = false := by rw [beq_eq_false_iff_ne]; intro h; exact hz (UInt8.toNat_inj.1 (by simpa using h))
        clear ht hd h2 hz
        go_enter Tryz.func103, Tryz.ntmps103
        go_wp2_with fail
        go_ret
        exact ⟨rfl, Below.refl _ _⟩

set_option maxRecDepth 100000 in
set_option maxHeartbeats 2000000 in
theorem size_kind (s : ByteArray) (w : World) (hs : s.size ≤ 65535) : Calls Tryz.prog 103 #[.int .u8 107, .string s] w (SaysSz .kind s w) := by
  unfold SaysSz
  by_cases h2 : 2 ≤ s.size
  · have hl : 2 ≤ s.data.toList.length := by rw [size_len]; exact h2
    have he : (s.extract 0 2).toList = s.data.toList.take 2 := by rw [Lib.toList_data, ext0]
    have h2i : (2 : Int) ≤ (s.size : Int) := by omega
    obtain ⟨b, hb⟩ : ∃ b, ((s.extract 0 2).toList == [0, 0]) = b := ⟨_, rfl⟩
    have HE : Hid (takeS .kind s.data.toList = if b = true then -1 else 2) := Lib.hid (by rw [← hb, he]; exact kind_list _ hl)
    rw [HE.out]
    clear he hl h2
    cases b with
    | true =>
      go_enter Tryz.func103, Tryz.ntmps103
      go_wp2_with fail
      go_ret
      exact ⟨rfl, Below.refl _ _⟩
    | false =>
      go_enter Tryz.func103, Tryz.ntmps103
      go_wp2_with fail
      go_ret
      exact ⟨rfl, Below.refl _ _⟩
  · have HE : Hid (takeS .kind s.data.toList = -1) := Lib.hid (by simp only [takeS]; rw [if_pos (.inl (by rw [size_len]; omega))])
    rw [HE.out]
    have h2i : (s.size : Int) < 2 := by omega
    clear h2
    go_enter Tryz.func103, Tryz.ntmps103
    go_wp2_with fail
    go_ret
    exact ⟨rfl, Below.refl _ _⟩

set_option maxRecDepth 100000 in
set_option maxHeartbeats 2000000 in
theorem size_kinds (s : ByteArray) (w : World) (hs : s.size ≤ 65535) : Calls Tryz.prog 103 #[.int .u8 75, .string s] w (SaysSz .kinds s w) := by
  unfold SaysSz
  have C := Lib.hid (fun w => rtypes_any s w (by omega))
  obtain ⟨R, HR⟩ : ∃ R, Hid (takeS .kinds s.data.toList = R) := ⟨_, Lib.hid rfl⟩
  rw [HR.out]
  go_enter Tryz.func103, Tryz.ntmps103
  go_wp2_with fail
  refine (C.out _).mono ?_
  rintro e w1 ⟨hB1, ⟨v, l, hl, rfl, _⟩ | ⟨hl, rfl⟩⟩
  · have HN : Hid ((s.size : Int) = R) := Lib.hid (by rw [← HR.out]; simp only [takeS]; rw [if_neg (by rw [hl]; simp), size_len])
    clear hl
    go_wp2_with fail
    go_ret
    exact ⟨by rw [← HN.out]; rfl, hB1⟩
  · have HN : Hid ((-1 : Int) = R) := Lib.hid (by rw [← HR.out]; simp only [takeS]; rw [if_pos hl])
    clear hl
    go_wp2_with fail
    go_ret
    exact ⟨by rw [← HN.out]; rfl, hB1⟩
end Go.Proofs.YtanoiiodnddkfaaGreat.rsize
namespace Go.Proofs.YtanoiiodnddkfaaGreat.rsizeB
open Go.RowKit Go.Proofs.YtanoiiodnddkfaaGreat.kit Go.Proofs.YtanoiiodnddkfaaGreat.nspec Go.Proofs.YtanoiiodnddkfaaGreat.rsplit Go.Proofs.YtanoiiodnddkfaaGreat.fld Go.Proofs.YtanoiiodnddkfaaGreat.takes Go.Proofs.YtanoiiodnddkfaaGreat.hostP Go.Proofs.YtanoiiodnddkfaaGreat.hostT Go.Proofs.YtanoiiodnddkfaaGreat.textsT Go.Proofs.YtanoiiodnddkfaaGreat.rsize
set_option linter.unusedVariables false

set_option maxRecDepth 100000 in
set_option maxHeartbeats 2000000 in
theorem size_host (s : ByteArray) (w : World) (hs : s.size ≤ 65535) : Calls Tryz.prog 103 #[.int .u8 110, .string s] w (SaysSz .host s w) := by
  obtain ⟨R, HR⟩ : ∃ R, Hid (hostS s.data.toList = R) := ⟨_, Lib.hid rfl⟩
  have HT : Hid (takeS .host s.data.toList = R) := Lib.hid HR.out
  unfold SaysSz
  rw [HT.out]
  go_enter Tryz.func103, Tryz.ntmps103
  go_wp2_with fail
  go_loopg [5] 256 (fun gas kv wr => ∃ k : Nat, kv = .int .i64 k ∧ 1 ≤ k ∧ k ≤ 256 ∧ 257 ≤ k + gas ∧ Hid (∀ j, j < k → split (s.data.toList.take j) = none) ∧ Below w.heap.size w wr)
  case atStart => exact ⟨1, rfl, by omega, by omega, by omega, Lib.hid (fun j hj => by
    have : j = 0 := by omega
    subst this; rfl), Below.refl _ _⟩
  case round =>
    obtain ⟨k, rfl, hk1, hk2, hkg, HJ, hB⟩ := hrel
    have HKG := Lib.hid hkg; clear hkg
    have HB := Lib.hid hB; clear hB
    by_cases hle : k ≤ s.size
    · by_cases h255 : k ≤ 255
      · have hlei : (k : Int) ≤ (s.size : Int) := by omega
        have h255i : (k : Int) ≤ 255 := by omega
        have CK := Lib.hid (fun w => isName_any (s.extract 0 k) w (by rw [ByteArray.size_extract]; omega))
        rcases isB_or (s.extract 0 k) with ⟨ls, hN⟩ | hN
        · rw [isB_yes hN] at CK
          rw [ext0] at hN
          have HY := Lib.hid (host_some (by rw [size_len]; exact hle) hN (fun j l hj h => by have := HJ.out j hj; rw [split_iff.2 h] at this; simp at this))
          clear hN
          go_wp2_with fail
          refine (CK.out _).mono ?_
          rintro e w1 ⟨rfl, hB1⟩
          have HB1 := Lib.hid (HB.out.trans (hB1.mono HB.out.size)); clear hB1
          go_wp2_with fail
          go_ret
          exact ⟨by rw [← HR.out, HY.out]; rfl, HB1.out⟩
        · rw [isB_no hN] at CK
          rw [ext0] at hN
          have HJ2 : Hid (∀ j, j < k + 1 → split (s.data.toList.take j) = none) := Lib.hid (fun j hj => by
            rcases Nat.lt_or_ge j k with h | h
            · exact HJ.out j h
            · have : j = k := by omega
              subst this; exact hN)
          clear hN
          go_wp2_with fail
          refine (CK.out _).mono ?_
          rintro e w1 ⟨rfl, hB1⟩
          have HB1 := Lib.hid (HB.out.trans (hB1.mono HB.out.size)); clear hB1
          go_wp2_with fail
          have hkg := HKG.out
          go_roundg (gk - 1)
          case rel => exact ⟨k + 1, by go_num, by omega, by omega, by omega, HJ2, HB1.out⟩
          case measure => omega
      · have HY := Lib.hid (host_none (d := s.data.toList) (fun j l hj h => by
          rcases Nat.lt_or_ge j k with h1 | h1
          · have := HJ.out j h1; rw [split_iff.2 h] at this; simp at this
          · have := h.2.2; rw [List.length_take, size_len] at this; rw [size_len] at hj; omega))
        have hlei : (k : Int) ≤ (s.size : Int) := by omega
        have h255i : (255 : Int) < (k : Int) := by omega
        clear h255
        go_wp2_with fail
        go_ret
        exact ⟨by rw [← HR.out, HY.out]; rfl, HB.out⟩
    · have HY := Lib.hid (host_none (d := s.data.toList) (fun j l hj h => by
        rw [size_len] at hj
        have := HJ.out j (by omega); rw [split_iff.2 h] at this; simp at this))
      have hlei : (s.size : Int) < (k : Int) := by omega
      clear hle
      go_wp2_with fail
      go_ret
      exact ⟨by rw [← HR.out, HY.out]; rfl, HB.out⟩

set_option maxRecDepth 100000 in
set_option maxHeartbeats 2000000 in
theorem size_texts (s : ByteArray) (w : World) (hs : s.size ≤ 65535) : Calls Tryz.prog 103 #[.int .u8 84, .string s] w (SaysSz .texts s w) := by
  obtain ⟨R, HR⟩ : ∃ R, Hid (textsA 0 (s.data.toList.drop 0) = R) := ⟨_, Lib.hid rfl⟩
  have HT : Hid (takeS .texts s.data.toList = R) := Lib.hid HR.out
  unfold SaysSz
  rw [HT.out]
  go_enter Tryz.func103, Tryz.ntmps103
  go_wp2_with fail
  go_loopg [6, 7] (s.size + 1) (fun gas av _ wr => ∃ a : Nat, av = .int .i64 a ∧ a ≤ s.size ∧ s.size + 1 ≤ a + gas ∧ Hid (textsA a (s.data.toList.drop a) = R) ∧ Below w.heap.size w wr)
  case atStart => exact ⟨0, rfl, by omega, by omega, HR, Below.refl _ _⟩
  case round =>
    obtain ⟨a, rfl, ha, hgas, HS, hB⟩ := hrel
    have HG := Lib.hid hgas; clear hgas
    have HB := Lib.hid hB; clear hB
    by_cases hlt : a < s.size
    · obtain ⟨c, hc⟩ : ∃ c, s[a] = c := ⟨_, rfl⟩
      have hd := drop_cons s a hlt
      rw [hc] at hd
      have hl : (s.data.toList.drop (a + 1)).length = s.size - (a + 1) := by rw [List.length_drop, size_len]
      have CT := Lib.hid (fun w => size_text (s.extract a s.size) w (by rw [ByteArray.size_extract]; omega))
      unfold SaysSz at CT
      simp only [takeS] at CT
      rw [ext_end, hd] at CT
      have h1 : (a : Int) ≤ (s.size : Int) := by omega
      by_cases h2 : (s.data.toList.drop (a + 1)).length < c.toNat
      · have e1 : textS (c :: s.data.toList.drop (a + 1)) = -1 := by simp only [textS]; rw [if_pos h2]
        have HN : Hid (-1 = R) := Lib.hid (by rw [← HS.out, hd, texts_bad h2])
        rw [e1] at CT
        clear e1 h2 hd hl
        go_wp2_with fail
        refine (CT.out _).mono ?_
        rintro e w1 ⟨rfl, hB1⟩
        have HB1 := Lib.hid (HB.out.trans (hB1.mono HB.out.size)); clear hB1
        go_wp2_with fail
        go_ret
        exact ⟨by rw [← HN.out]; rfl, HB1.out⟩
      · have e1 : textS (c :: s.data.toList.drop (a + 1)) = ((1 + c.toNat : Nat) : Int) := by simp only [textS]; rw [if_neg h2]; simp
        obtain ⟨n, hn⟩ : ∃ n, 1 + c.toNat = n := ⟨_, rfl⟩
        have hns : a + n ≤ s.size := by omega
        have HN : Hid (textsA (a + n) (s.data.toList.drop (a + n)) = R) := Lib.hid (by
          rw [← HS.out, hd, texts_go (by omega), List.drop_drop, hn, show a + 1 + c.toNat = a + n by omega])
        rw [e1, hn] at CT
        have hn1 : 1 ≤ n := by omega
        clear e1 h2 hd hl hn
        go_wp2_with fail
        refine (CT.out _).mono ?_
        rintro e w1 ⟨rfl, hB1⟩
        have HB1 := Lib.hid (HB.out.trans (hB1.mono HB.out.size)); clear hB1
        go_wp2_with fail
        have hgas := HG.out
        go_roundg (gk - 1)
        case rel => exact ⟨a + n, by go_num, by omega, by omega, HN, HB1.out⟩
        case measure => omega
    · have hae : a = s.size := by omega
      subst hae
      have HN : Hid ((if s.size = 0 then -1 else (s.size : Int)) = R) := Lib.hid (by rw [← HS.out, drop_end s s.size (Nat.le_refl _), texts_end])
      clear hlt
      by_cases h0 : s.size = 0
      · have hz : ((s.size : Int) == 0) = true := by rw [beq_iff_eq]; omega
        rw [if_pos h0] at HN
        have H0 := Lib.hid h0; clear h0
        go_wp2_with fail
        go_ret
        exact ⟨by rw [← HN.out]; rfl, HB.out⟩
      · have hz : ((s.size : Int) == 0) = false := by rw [beq_eq_false_iff_ne]; omega
        rw [if_neg h0] at HN
        clear h0
        go_wp2_with fail
        go_ret
        exact ⟨by rw [← HN.out]; rfl, HB.out⟩

/-- of every field that a form can have -/
theorem size_any (f : Fld) (s : ByteArray) (w : World) (hs : s.size ≤ 65535) (hf : ∀ k, f = .num k → k = 1 ∨ k = 2 ∨ k = 4) : Calls Tryz.prog 103 #[.int .u8 (letterOf f : Nat), .string s] w (SaysSz f s w) := by
  cases f with
  | num k =>
    rcases hf k rfl with h | h | h <;> subst h
    · exact size_1 s w hs
    · exact size_2 s w hs
    · exact size_4 s w hs
  | ip4 => exact size_ip4 s w hs
  | ip6 => exact size_ip6 s w hs
  | host => exact size_host s w hs
  | text => exact size_text s w hs
  | texts => exact size_texts s w hs
  | tail => exact size_tail s w hs
  | hexes => exact size_hexes s w hs
  | b64 => exact size_b64 s w hs
  | kind => exact size_kind s w hs
  | kinds => exact size_kinds s w hs
  | salt => exact size_salt s w hs
  | hash => exact size_hash s w hs
end Go.Proofs.YtanoiiodnddkfaaGreat.rsizeB
namespace Go.Proofs.YtanoiiodnddkfaaGreat.rform
open Go.RowKit Go.Proofs.YtanoiiodnddkfaaGreat.kit Go.Proofs.YtanoiiodnddkfaaGreat.nspec Go.Proofs.YtanoiiodnddkfaaGreat.fld Go.Proofs.YtanoiiodnddkfaaGreat.rsize Go.Proofs.YtanoiiodnddkfaaGreat.dcheck
set_option linter.unusedVariables false

def lettersB (fs : List Fld) : Bs := fs.map (fun f => UInt8.ofNat (letterOf f))
def formB (t : Int) : Bs := match formS t with | some fs => lettersB fs | none => if holdsB t = true then [45] else []
def FormIs (l : Bs) (w : World) (e : Ending) (w' : World) : Prop := e = .returned (.string ⟨l.toArray⟩) ∧ w = w'

set_option maxRecDepth 100000 in
set_option maxHeartbeats 1000000 in
theorem rform_1 (w : World) : Calls Tryz.prog 82 #[.int .i64 1] w (FormIs [97] w) := by
  go_enter Tryz.func82, Tryz.ntmps82
  go_wp2_with fail
  go_ret
  exact ⟨rfl, rfl⟩

set_option maxRecDepth 100000 in
set_option maxHeartbeats 1000000 in
theorem rform_2 (w : World) : Calls Tryz.prog 82 #[.int .i64 2] w (FormIs [110] w) := by
  go_enter Tryz.func82, Tryz.ntmps82
  go_wp2_with fail
  go_ret
  exact ⟨rfl, rfl⟩

set_option maxRecDepth 100000 in
set_option maxHeartbeats 1000000 in
theorem rform_5 (w : World) : Calls Tryz.prog 82 #[.int .i64 5] w (FormIs [110] w) := by
  go_enter Tryz.func82, Tryz.ntmps82
  go_wp2_with fail
  go_ret
  exact ⟨rfl, rfl⟩

set_option maxRecDepth 100000 in
set_option maxHeartbeats 1000000 in
theorem rform_12 (w : World) : Calls Tryz.prog 82 #[.int .i64 12] w (FormIs [110] w) := by
  go_enter Tryz.func82, Tryz.ntmps82
  go_wp2_with fail
  go_ret
  exact ⟨rfl, rfl⟩

set_option maxRecDepth 100000 in
set_option maxHeartbeats 1000000 in
theorem rform_39 (w : World) : Calls Tryz.prog 82 #[.int .i64 39] w (FormIs [110] w) := by
  go_enter Tryz.func82, Tryz.ntmps82
  go_wp2_with fail
  go_ret
  exact ⟨rfl, rfl⟩

set_option maxRecDepth 100000 in
set_option maxHeartbeats 1000000 in
theorem rform_6 (w : World) : Calls Tryz.prog 82 #[.int .i64 6] w (FormIs [110, 110, 52, 52, 52, 52, 52] w) := by
  go_enter Tryz.func82, Tryz.ntmps82
  go_wp2_with fail
  go_ret
  exact ⟨rfl, rfl⟩

set_option maxRecDepth 100000 in
set_option maxHeartbeats 1000000 in
theorem rform_13 (w : World) : Calls Tryz.prog 82 #[.int .i64 13] w (FormIs [116, 116] w) := by
  go_enter Tryz.func82, Tryz.ntmps82
  go_wp2_with fail
  go_ret
  exact ⟨rfl, rfl⟩

set_option maxRecDepth 100000 in
set_option maxHeartbeats 1000000 in
theorem rform_15 (w : World) : Calls Tryz.prog 82 #[.int .i64 15] w (FormIs [50, 110] w) := by
  go_enter Tryz.func82, Tryz.ntmps82
  go_wp2_with fail
  go_ret
  exact ⟨rfl, rfl⟩

set_option maxRecDepth 100000 in
set_option maxHeartbeats 1000000 in
theorem rform_16 (w : World) : Calls Tryz.prog 82 #[.int .i64 16] w (FormIs [84] w) := by
  go_enter Tryz.func82, Tryz.ntmps82
  go_wp2_with fail
  go_ret
  exact ⟨rfl, rfl⟩

set_option maxRecDepth 100000 in
set_option maxHeartbeats 1000000 in
theorem rform_28 (w : World) : Calls Tryz.prog 82 #[.int .i64 28] w (FormIs [54] w) := by
  go_enter Tryz.func82, Tryz.ntmps82
  go_wp2_with fail
  go_ret
  exact ⟨rfl, rfl⟩

set_option maxRecDepth 100000 in
set_option maxHeartbeats 1000000 in
theorem rform_33 (w : World) : Calls Tryz.prog 82 #[.int .i64 33] w (FormIs [50, 50, 50, 110] w) := by
  go_enter Tryz.func82, Tryz.ntmps82
  go_wp2_with fail
  go_ret
  exact ⟨rfl, rfl⟩

set_option maxRecDepth 100000 in
set_option maxHeartbeats 1000000 in
theorem rform_35 (w : World) : Calls Tryz.prog 82 #[.int .i64 35] w (FormIs [50, 50, 116, 116, 116, 110] w) := by
  go_enter Tryz.func82, Tryz.ntmps82
  go_wp2_with fail
  go_ret
  exact ⟨rfl, rfl⟩

set_option maxRecDepth 100000 in
set_option maxHeartbeats 1000000 in
theorem rform_43 (w : World) : Calls Tryz.prog 82 #[.int .i64 43] w (FormIs [50, 49, 49, 104] w) := by
  go_enter Tryz.func82, Tryz.ntmps82
  go_wp2_with fail
  go_ret
  exact ⟨rfl, rfl⟩

set_option maxRecDepth 100000 in
set_option maxHeartbeats 1000000 in
theorem rform_46 (w : World) : Calls Tryz.prog 82 #[.int .i64 46] w (FormIs [107, 49, 49, 52, 52, 52, 50, 110, 98] w) := by
  go_enter Tryz.func82, Tryz.ntmps82
  go_wp2_with fail
  go_ret
  exact ⟨rfl, rfl⟩

set_option maxRecDepth 100000 in
set_option maxHeartbeats 1000000 in
theorem rform_47 (w : World) : Calls Tryz.prog 82 #[.int .i64 47] w (FormIs [110, 75] w) := by
  go_enter Tryz.func82, Tryz.ntmps82
  go_wp2_with fail
  go_ret
  exact ⟨rfl, rfl⟩

set_option maxRecDepth 100000 in
set_option maxHeartbeats 1000000 in
theorem rform_48 (w : World) : Calls Tryz.prog 82 #[.int .i64 48] w (FormIs [50, 49, 49, 98] w) := by
  go_enter Tryz.func82, Tryz.ntmps82
  go_wp2_with fail
  go_ret
  exact ⟨rfl, rfl⟩

set_option maxRecDepth 100000 in
set_option maxHeartbeats 1000000 in
theorem rform_50 (w : World) : Calls Tryz.prog 82 #[.int .i64 50] w (FormIs [49, 49, 50, 115, 72, 75] w) := by
  go_enter Tryz.func82, Tryz.ntmps82
  go_wp2_with fail
  go_ret
  exact ⟨rfl, rfl⟩

set_option maxRecDepth 100000 in
set_option maxHeartbeats 1000000 in
theorem rform_51 (w : World) : Calls Tryz.prog 82 #[.int .i64 51] w (FormIs [49, 49, 50, 115] w) := by
  go_enter Tryz.func82, Tryz.ntmps82
  go_wp2_with fail
  go_ret
  exact ⟨rfl, rfl⟩

set_option maxRecDepth 100000 in
set_option maxHeartbeats 1000000 in
theorem rform_257 (w : World) : Calls Tryz.prog 82 #[.int .i64 257] w (FormIs [49, 116, 114] w) := by
  go_enter Tryz.func82, Tryz.ntmps82
  go_wp2_with fail
  go_ret
  exact ⟨rfl, rfl⟩

set_option maxRecDepth 100000 in
set_option maxHeartbeats 4000000 in
theorem rform_no (t : Int) (w : World) (h0 : formS t = none) : Calls Tryz.prog 82 #[.int .i64 t] w (FormIs (if holdsB t = true then [45] else []) w) := by
  have b1 : (t == 1) = false := by rw [beq_eq_false_iff_ne]; intro h; subst h; simp [formS] at h0
  have b2 : (t == 2) = false := by rw [beq_eq_false_iff_ne]; intro h; subst h; simp [formS] at h0
  have b5 : (t == 5) = false := by rw [beq_eq_false_iff_ne]; intro h; subst h; simp [formS] at h0
  have b12 : (t == 12) = false := by rw [beq_eq_false_iff_ne]; intro h; subst h; simp [formS] at h0
  have b39 : (t == 39) = false := by rw [beq_eq_false_iff_ne]; intro h; subst h; simp [formS] at h0
  have b6 : (t == 6) = false := by rw [beq_eq_false_iff_ne]; intro h; subst h; simp [formS] at h0
  have b13 : (t == 13) = false := by rw [beq_eq_false_iff_ne]; intro h; subst h; simp [formS] at h0
  have b15 : (t == 15) = false := by rw [beq_eq_false_iff_ne]; intro h; subst h; simp [formS] at h0
  have b16 : (t == 16) = false := by rw [beq_eq_false_iff_ne]; intro h; subst h; simp [formS] at h0
  have b28 : (t == 28) = false := by rw [beq_eq_false_iff_ne]; intro h; subst h; simp [formS] at h0
  have b33 : (t == 33) = false := by rw [beq_eq_false_iff_ne]; intro h; subst h; simp [formS] at h0
  have b35 : (t == 35) = false := by rw [beq_eq_false_iff_ne]; intro h; subst h; simp [formS] at h0
  have b43 : (t == 43) = false := by rw [beq_eq_false_iff_ne]; intro h; subst h; simp [formS] at h0
  have b46 : (t == 46) = false := by rw [beq_eq_false_iff_ne]; intro h; subst h; simp [formS] at h0
  have b47 : (t == 47) = false := by rw [beq_eq_false_iff_ne]; intro h; subst h; simp [formS] at h0
  have b48 : (t == 48) = false := by rw [beq_eq_false_iff_ne]; intro h; subst h; simp [formS] at h0
  have b50 : (t == 50) = false := by rw [beq_eq_false_iff_ne]; intro h; subst h; simp [formS] at h0
  have b51 : (t == 51) = false := by rw [beq_eq_false_iff_ne]; intro h; subst h; simp [formS] at h0
  have b257 : (t == 257) = false := by rw [beq_eq_false_iff_ne]; intro h; subst h; simp [formS] at h0
  have H0 := Lib.hid h0
  clear h0
  obtain ⟨l, hl⟩ : ∃ l, (if holdsB t = true then [45] else ([] : Bs)) = l := ⟨_, rfl⟩
  rw [hl]
  by_cases h1 : t < 1
  · have HL : Hid (l = []) := Lib.hid (by rw [← hl, holds_no (.inl h1)]; rfl)
    clear hl
    go_enter Tryz.func82, Tryz.ntmps82
    go_wp2_with fail
    go_ret
    rw [HL.out]
    exact ⟨rfl, rfl⟩
  have h1i : 1 ≤ t := by omega
  clear h1
  by_cases h2 : 65535 < t
  · have HL : Hid (l = []) := Lib.hid (by rw [← hl, holds_no (.inr (.inl h2))]; rfl)
    clear hl
    go_enter Tryz.func82, Tryz.ntmps82
    go_wp2_with fail
    go_ret
    rw [HL.out]
    exact ⟨rfl, rfl⟩
  have h2i : t ≤ 65535 := by omega
  clear h2
  by_cases h3 : t = 41
  · have HL : Hid (l = []) := Lib.hid (by rw [← hl, holds_no (.inr (.inr (.inl h3)))]; rfl)
    have h3b : (t == 41) = true := by rw [beq_iff_eq]; exact h3
    clear hl h3
    go_enter Tryz.func82, Tryz.ntmps82
    go_wp2_with fail
    go_ret
    rw [HL.out]
    exact ⟨rfl, rfl⟩
  have h3b : (t == 41) = false := by rw [beq_eq_false_iff_ne]; exact h3
  have H3 := Lib.hid h3; clear h3
  by_cases h4 : t < 128
  · have HL : Hid (l = [45]) := Lib.hid (by rw [← hl, holds_yes h1i h2i H3.out (.inl h4)]; rfl)
    have d4 : decide (128 ≤ t) = false := by rw [decide_eq_false_iff_not]; omega
    clear hl
    go_enter Tryz.func82, Tryz.ntmps82
    go_wp2_with fail
    go_ret
    rw [HL.out]
    exact ⟨rfl, rfl⟩
  have h4i : 128 ≤ t := by omega
  have d4 : decide (128 ≤ t) = true := by rw [decide_eq_true_eq]; omega
  clear h4
  by_cases h5 : 255 < t
  · have HL : Hid (l = [45]) := Lib.hid (by rw [← hl, holds_yes h1i h2i H3.out (.inr h5)]; rfl)
    have d5 : decide (t ≤ 255) = false := by rw [decide_eq_false_iff_not]; omega
    clear hl
    go_enter Tryz.func82, Tryz.ntmps82
    go_wp2_with fail
    go_ret
    rw [HL.out]
    exact ⟨rfl, rfl⟩
  · have h5i : t ≤ 255 := by omega
    have HL : Hid (l = []) := Lib.hid (by rw [← hl, holds_no (.inr (.inr (.inr ⟨h4i, h5i⟩)))]; rfl)
    have d5 : decide (t ≤ 255) = true := by rw [decide_eq_true_eq]; omega
    clear hl h5
    go_enter Tryz.func82, Tryz.ntmps82
    go_wp2_with fail
    go_ret
    rw [HL.out]
    exact ⟨rfl, rfl⟩
theorem rform_any (t : Int) (w : World) : Calls Tryz.prog 82 #[.int .i64 t] w (FormIs (formB t) w) := by
  by_cases h1 : t = 1
  · subst h1; exact rform_1 w
  by_cases h2 : t = 2
  · subst h2; exact rform_2 w
  by_cases h5 : t = 5
  · subst h5; exact rform_5 w
  by_cases h12 : t = 12
  · subst h12; exact rform_12 w
  by_cases h39 : t = 39
  · subst h39; exact rform_39 w
  by_cases h6 : t = 6
  · subst h6; exact rform_6 w
  by_cases h13 : t = 13
  · subst h13; exact rform_13 w
  by_cases h15 : t = 15
  · subst h15; exact rform_15 w
  by_cases h16 : t = 16
  · subst h16; exact rform_16 w
  by_cases h28 : t = 28
  · subst h28; exact rform_28 w
  by_cases h33 : t = 33
  · subst h33; exact rform_33 w
  by_cases h35 : t = 35
  · subst h35; exact rform_35 w
  by_cases h43 : t = 43
  · subst h43; exact rform_43 w
  by_cases h46 : t = 46
  · subst h46; exact rform_46 w
  by_cases h47 : t = 47
  · subst h47; exact rform_47 w
  by_cases h48 : t = 48
  · subst h48; exact rform_48 w
  by_cases h50 : t = 50
  · subst h50; exact rform_50 w
  by_cases h51 : t = 51
  · subst h51; exact rform_51 w
  by_cases h257 : t = 257
  · subst h257; exact rform_257 w
  have h : formS t = none := by simp [formS, h1, h2, h5, h12, h39, h6, h13, h15, h16, h28, h33, h35, h43, h46, h47, h48, h50, h51, h257]
  have := rform_no t w h
  unfold formB
  rw [h]
  exact this
end Go.Proofs.YtanoiiodnddkfaaGreat.rform
namespace Go.Proofs.YtanoiiodnddkfaaGreat.parts
open Go.RowKit Go.Proofs.YtanoiiodnddkfaaGreat.kit Go.Proofs.YtanoiiodnddkfaaGreat.nspec Go.Proofs.YtanoiiodnddkfaaGreat.rsplit Go.Proofs.YtanoiiodnddkfaaGreat.fld Go.Proofs.YtanoiiodnddkfaaGreat.hostT Go.Proofs.YtanoiiodnddkfaaGreat.textsT Go.Proofs.YtanoiiodnddkfaaGreat.splitD Go.Proofs.YtanoiiodnddkfaaGreat.rsize Go.Proofs.YtanoiiodnddkfaaGreat.rsizeB Go.Proofs.YtanoiiodnddkfaaGreat.rform
set_option linter.unusedVariables false

def Fair4 (fs : List Fld) : Prop := fs.length ≤ 20 ∧ ∀ k, Fld.num k ∈ fs → k = 1 ∨ k = 2 ∨ k = 4
theorem letter_lt (f : Fld) (h : ∀ k, f = .num k → k = 1 ∨ k = 2 ∨ k = 4) : letterOf f < 256 := by
  cases f with
  | num k => have := h k rfl; simp only [letterOf]; omega
  | _ => decide

set_option maxRecDepth 100000 in
set_option maxHeartbeats 8000000 in
theorem parts_any (fs : List Fld) (F s : ByteArray) (w : World) (hF : F.data.toList = lettersB fs) (hf : Fair4 fs) (hs : s.size ≤ 65535) (n : Nat) (hn : fs.length = n) :
    Calls Tryz.prog 81 #[.string F, .string s] w (SplitPost w fs s.data.toList) := by
  obtain ⟨i0, hi, hz0, hz1, hz2⟩ := info_parts infoStr
  obtain ⟨R, HR⟩ : ∃ R, Hid (splitS fs s.data.toList = R) := ⟨_, Lib.hid rfl⟩
  have HR0 : Hid (addP [] (splitS (fs.drop 0) s.data.toList) = R) := Lib.hid (by rw [addP_nil, List.drop_zero]; exact HR.out)
  have hn20 : n ≤ 20 := by rw [← hn]; exact hf.1
  have HN := Lib.hid hn; have HF := Lib.hid hf.2
  have hFn : F.size = n := by rw [← size_len, hF, ← hn]; simp [lettersB]
  have HFN := Lib.hid hFn
  have hFn1 : F.size ≤ n := by omega
  have hFn2 : n ≤ F.size := by omega
  have HFD := Lib.hid hF
  clear hn hf hF hFn
  go_enter Tryz.func81, Tryz.ntmps81
  go_wp2_with fail
  go_loopg [1, 6, 7, 8] (n + 1) (fun gas dv pv kv _ wr => ∃ (k : Nat) (u : ByteArray) (P : List Bs), kv = .int .i64 k ∧ dv = .string u ∧ k ≤ n ∧ n + 1 ≤ k + gas ∧ u.size ≤ 65535 ∧ P.length ≤ k ∧ Hid (addP P (splitS (fs.drop k) u.data.toList) = R) ∧ wr.ownsRow w.heap.size 9 1 pv P.length (P.map strV) ∧ Below w.heap.size w wr)
  case atStart => exact ⟨0, s, [], rfl, rfl, by omega, by omega, hs, by simp, HR0, World.ownsRow_nil _ _ _ _, Below.refl _ _⟩
  case round =>
    obtain ⟨k, u, P, rfl, rfl, hk, hkg, hu, hP, HW, hown, hB⟩ := hrel
    have HKG := Lib.hid hkg; clear hkg
    have HB := Lib.hid hB
    by_cases hlt : k < n
    · obtain ⟨f, hfk⟩ : ∃ f, fs[k]? = some f := ⟨_, List.getElem?_eq_getElem (by have := HN.out; omega)⟩
      have hkF : k < F.size := by omega
      have hletter : (F[k].toNat : Int) = ((letterOf f : Nat) : Int) := by
        have h1 : F.data.toList[k]? = some (UInt8.ofNat (letterOf f)) := by rw [HFD.out]; simp [lettersB, hfk]
        have h2 := at_some hkF (rfl : F[k] = F[k])
        rw [h1] at h2
        have h3 : UInt8.ofNat (letterOf f) = F[k] := by simpa using h2
        rw [← h3]
        rw [UInt8.toNat_ofNat']
        have := letter_lt f (fun j e => HF.out j (by rw [← e]; exact List.mem_of_getElem? hfk))
        omega
      obtain ⟨c, hc⟩ : ∃ c, F[k] = c := ⟨_, rfl⟩
      rw [hc] at hletter
      have hc256 := byte_lt c
      have hdr : fs.drop k = f :: fs.drop (k + 1) := by
        obtain ⟨h1, h2⟩ := List.getElem?_eq_some_iff.1 hfk
        rw [List.drop_eq_getElem_cons h1, h2]
      have hnum := fun j (e : f = .num j) => HF.out j (by rw [← e]; exact List.mem_of_getElem? hfk)
      have HD := Lib.hid hdr; have HNUM := Lib.hid hnum; have HOWN := Lib.hid hown
      have CZ := Lib.hid (fun w => size_any f u w hu (fun j e => HNUM.out j e))
      rw [← hletter] at CZ
      clear hdr hnum hfk hown hB hletter
      go_wp2_with fail
      refine (CZ.out _).mono ?_
      rintro e w9 ⟨rfl, hB2⟩
      · skip
        have hT := takeS_le f u.data.toList
        rw [size_len] at hT
        have HB3 := Lib.hid (HB.out.trans (hB2.mono HB.out.size))
        have HOWN2 := Lib.hid (ownsRow_below HOWN.out hB2)
        obtain ⟨T, hTT⟩ : ∃ T, takeS f u.data.toList = T := ⟨_, rfl⟩
        have HTT := Lib.hid hTT
        rw [hTT] at hT ⊢
        obtain ⟨hT1, hT2⟩ := hT
        clear hTT hB2 HOWN HB
        by_cases hneg : T < 0
        · have HBAD : Hid (splitS fs s.data.toList = none) := Lib.hid (by rw [HR.out, ← HW.out, HD.out, addP_bad (by rw [HTT.out]; exact hneg)])
          go_wp2_with fail
          go_ret2
          exact ⟨HB3.out, .inr ⟨HBAD.out, rfl⟩⟩
        · obtain ⟨m, rfl⟩ : ∃ m : Nat, T = m := ⟨T.toNat, by omega⟩
          have hms : m ≤ u.size := by omega
          have hmi : (m : Int) ≤ (u.size : Int) := by omega
          have HW2 : Hid (addP (P ++ [u.data.toList.take m]) (splitS (fs.drop (k + 1)) (u.data.toList.drop m)) = R) := Lib.hid (by rw [← addP_go HTT.out, ← HD.out]; exact HW.out)
          have hx : (u.extract 0 m).data.toList = u.data.toList.take m := ext0 u m
          have HX : Hid (Value.string (u.extract 0 m) = strV (u.data.toList.take m)) := Lib.hid (congrArg Value.string (ba_ext hx))
          have HU2 := Lib.hid (ext_end u m)
          have hus2 : (u.extract m u.size).size = u.size - m := by rw [ByteArray.size_extract]; omega
          have HUS2 := Lib.hid hus2
          have hown := HOWN2.out
          have hB' := HB3.out
          have hsz := hB'.size
          clear hneg hx hus2 hT1 hT2
          go_wp2_with (at_builtin; go_must (refine wpList_append_own _ rfl _ _ 74 rfl w.heap.size 9 i0 (.string ByteArray.empty) 1 16 Tryz.underlying74 hi hz0 hz1 hz2 rfl (by decide) _ _ _ rfl (hown.alloc _) ⟨_, 0, none⟩ 1 1 [.string (u.extract 0 m)] rfl rfl ?c1 ?c2 ?c3 ?c4 ?c5 ?_))
          case c1 => exact cell_one_new _ _ _
          case c2 => simp [Value.oneCell']
          case c3 => unfold maxLen; omega
          case c4 => omega
          case c5 => simp; omega
          intro v' w1 hown' hgrow hnil
          have hown2 := own_snoc HX.out hown'
          have hB4 := below_append hB' hsz hown hgrow
          clear hown' hgrow hown hnil
          go_wp2_with fail
          have hkg := HKG.out
          go_roundg (gk - 1)
          case rel =>
            have h2 := HUS2.out
            exact ⟨k + 1, _, _, by go_num, rfl, by omega, by omega, by omega, by simp; omega, Lib.hid (by rw [HU2.out]; exact HW2.out), hown2, hB4⟩
          case measure => omega
    · have hke : k = n := by omega
      subst hke
      have HE : Hid (R = some (P, u.data.toList)) := Lib.hid (by rw [← HW.out, List.drop_eq_nil_iff.2 (by have := HN.out; omega), addP_end])
      have HFIN : Hid (splitS fs s.data.toList = some (P, u.data.toList)) := Lib.hid (HR.out.trans HE.out)
      have hem : u.data.toList.isEmpty = u.toList.isEmpty := by rw [Lib.toList_data]
      have HEM := Lib.hid hem
      clear hlt hem
      go_wp2_with fail
      go_ret2
      refine ⟨HB.out, .inl ⟨_, P, u.data.toList, HFIN.out, ?_, hown⟩⟩
      rw [HEM.out]; rfl
end Go.Proofs.YtanoiiodnddkfaaGreat.parts
