/- gazetteerref1.Types: walk. The name that stands first: plain. How many bytes a name takes: data.host.take: walk. How many bytes a field takes: gazetteerref1.size: walk. -/
import Derived.Test.YtjejmgdpjfdhjaaGreatDoorK13
import Derived.Test.YtjejmgdpjfdhjaaGreatDoorK14
import Derived.Test.YtjejmgdpjfdhjaaGreatDoorK2
import Derived.Test.YtjejmgdpjfdhjaaGreatDoorK7
import Derived.Test.YtjejmgdpjfdhjaaGreatDoorK4
import Derived.Test.YtjejmgdpjfdhjaaGreatDoorK10
import Derived.BigQuiet
import Derived.Deep.QuietTactic
import Derived.Outline
namespace Go.Proofs.YtjejmgdpjfdhjaaGreatDoor.typesR
open Go.RowKit Go.Proofs.YtjejmgdpjfdhjaaGreatDoor.kit Go.Proofs.YtjejmgdpjfdhjaaGreatDoor.nspec Go.Proofs.YtjejmgdpjfdhjaaGreatDoor.bits Go.Proofs.YtjejmgdpjfdhjaaGreatDoor.ints Go.Proofs.YtjejmgdpjfdhjaaGreatDoor.fld Go.Proofs.YtjejmgdpjfdhjaaGreatDoor.typesP Go.Proofs.YtjejmgdpjfdhjaaGreatDoor.takes Go.Proofs.YtjejmgdpjfdhjaaGreatDoor.typesW Go.Proofs.YtjejmgdpjfdhjaaGreatDoor.two
set_option linter.unusedVariables false

theorem below_drewN (B : Nat) (w : World) (n : Nat) : Below B w (w.drewN n) := ⟨rfl, rfl, rfl, Nat.le_refl _, fun _ _ => rfl⟩
theorem ownsRow_below {w w' : World} {base : Nat} {e : TypeId} {size n : Nat} {v : Value} {xs : List Value} (h : w.ownsRow base e size v n xs) (hB : Below w.heap.size w w') : w'.ownsRow base e size v n xs := by
  refine ⟨h.1, ?_⟩
  rcases h.2 with h1 | ⟨g, cap, cur, h1, h2, h3, h4⟩
  · exact .inl h1
  · exact .inr ⟨g, cap, cur, h1, h2, (hB.block g (Array.getElem?_eq_some_iff.1 h3).1).trans h3, h4⟩

set_option maxRecDepth 100000 in
set_option maxHeartbeats 8000000 in
theorem rtypes_any (s : ByteArray) (w : World) (hs : s.size ≤ 1048576) :
    Calls Tryz.prog 47 #[.string s] w (TypesPost w s.data.toList) := by
  obtain ⟨i0, hi, hz0, hz1, hz2⟩ := info_parts infoInt
  obtain ⟨R, HR⟩ : ∃ R, Hid (typesA (-1) [] s.data.toList = R) := ⟨_, Lib.hid rfl⟩
  go_enter Tryz.func47, Tryz.ntmps47
  go_wp2_with fail
  go_loopg [0, 4, 5] (s.size + 1) (fun gas sv ov lv wr => ∃ (u : ByteArray) (L : Int) (A : List Nat), sv = .string u ∧ lv = .int .i64 L ∧ -1 ≤ L ∧ L ≤ 255 ∧ u.size + 1 ≤ gas ∧ u.size ≤ 1048576 ∧ A.length + 8 * u.size ≤ 8388608 ∧ Hid (typesA L A u.data.toList = R) ∧ wr.ownsRow w.heap.size 3 1 ov A.length (A.map bitV) ∧ Below w.heap.size w wr)
  case atStart => exact ⟨s, -1, [], rfl, rfl, by omega, by omega, by omega, hs, by simp; omega, HR, World.ownsRow_nil _ _ _ _, Below.refl _ _⟩
  case round =>
    obtain ⟨u, L, A, rfl, rfl, hL0, hL1, hgas, hus, hAu, HW, hA, hB⟩ := hrel
    have hB0 := hB
    obtain ⟨gk', hgk'⟩ : ∃ g, g = gk := ⟨_, rfl⟩
    rw [← hgk'] at hgas
    have HG := Lib.hid hgas; clear hgas
    have HB := Lib.hid hB
    by_cases h0 : u.size = 0
    · have he := emp_yes h0
      have HE : Hid (typesA (-1) [] s.data.toList = some A) := Lib.hid (by
        have hd : u.data.toList = [] := by rw [← Lib.toList_data]; exact he
        rw [HR.out, ← HW.out, hd, types_end])
      have HA := Lib.hid hA
      obtain ⟨a, c, rfl, hlc, hcm, hR⟩ := RdN.of_own hA
      obtain ⟨n, hn⟩ : ∃ n, A.length = n := ⟨_, rfl⟩
      rw [hn] at hlc ⊢
      have hnb : n ≤ 8388608 := by omega
      have HN := Lib.hid hn
      have HRD := Lib.hid hR
      clear hA h0 hR hn
      go_wp2_with fail
      go_loopg [11, 78] (n + 1) (fun gas _ kv wq => ∃ k : Nat, kv = .int .i64 k ∧ k ≤ n ∧ n + 1 ≤ k + gas ∧ Hid (∀ j, j < k → A[j]? ≠ some 0) ∧ wr = wq)
      case atStart => exact ⟨0, rfl, by omega, by omega, Lib.hid (by omega), rfl⟩
      case round =>
        obtain ⟨k, rfl, hk, hkg, HNZ, rfl⟩ := hrel
        have HKG := Lib.hid hkg; clear hkg
        by_cases hlt : k < n
        · obtain ⟨x, hx⟩ : ∃ x, A[k]? = some x := ⟨_, List.getElem?_eq_getElem (by have := HN.out; omega)⟩
          obtain ⟨g, o, rfl, hg, hcell⟩ := HRD.out k x hx
          unfold bitV at hcell
          by_cases hx0 : x = 0
          · have HF := Lib.hid (res_zero HE.out (by rw [hx0] at hx; exact List.mem_of_getElem? hx))
            have hb : ((x : Int) == 0) = true := by rw [beq_iff_eq]; omega
            clear hx0 hx
            go_wp2_with fail
            go_ret2
            exact ⟨HB.out, .inr ⟨HF.out, rfl⟩⟩
          · have hb : ((x : Int) == 0) = false := by rw [beq_eq_false_iff_ne]; omega
            have HNZ2 : Hid (∀ j, j < k + 1 → A[j]? ≠ some 0) := Lib.hid (fun j hj => by
              rcases Nat.lt_or_ge j k with h | h
              · exact HNZ.out j h
              · have : j = k := by omega
                subst this; rw [hx]; simpa using hx0)
            clear hx0 hx
            go_wp2_with fail
            have hkg := HKG.out
            go_roundg (gk - 1)
            case rel => exact ⟨k + 1, by go_num, by omega, by omega, HNZ2, rfl⟩
            case measure => omega
        · have HF := Lib.hid (res_some HE.out (fun h => by
            obtain ⟨j, hj⟩ := List.mem_iff_getElem?.1 h
            exact HNZ.out j (by have := (List.getElem?_eq_some_iff.1 hj).1; have := HN.out; omega) hj))
          go_wp2_with fail
          go_ret2
          have h := HA.out
          rw [HN.out] at h
          exact ⟨HB.out, .inl ⟨_, A, HF.out, rfl, by rw [HN.out]; exact h⟩⟩
    · have hne := emp_no (s := u) (by omega)
      by_cases h3 : u.size < 2
      · have HF := Lib.hid (res_none HR.out (by
          rw [← HW.out]
          have hl : u.data.toList = u[0] :: u.data.toList.drop 1 := data_cons (by omega)
          rw [drop_end u 1 (by omega)] at hl
          rw [hl, types_one]))
        have h3i : (u.size : Int) < 2 := by omega
        clear h3 h0 hA
        go_wp2_with fail
        go_ret2
        exact ⟨HB.out, .inr ⟨HF.out, rfl⟩⟩
      · have h3i : (2 : Int) ≤ (u.size : Int) := by omega
        have h2s : 2 ≤ u.size := by omega
        have hd := u_two (u := u) h2s
        have hml : (u.data.toList.drop 2).length = u.size - 2 := by rw [List.length_drop, size_len]
        have hlast : ∀ j, 2 + j < u.size → (u.data.toList.drop 2).getD j 0 = u.data.toList.getD (2 + j) 0 := fun j hj => by
          rw [List.getD_eq_getElem?_getD, List.getD_eq_getElem?_getD, List.getElem?_drop]
        have h1s : 1 < u.size := by omega
        have h0s : 0 < u.size := by omega
        obtain ⟨b, hb⟩ : ∃ b, u[0] = b := ⟨_, rfl⟩
        obtain ⟨n, hn⟩ : ∃ n, u[1] = n := ⟨_, rfl⟩
        rw [hb, hn] at hd
        obtain ⟨m, hm⟩ : ∃ m, u.data.toList.drop 2 = m := ⟨_, rfl⟩
        rw [hm] at hd hml hlast
        have hb256 := byte_lt b
        have hn256 := byte_lt n
        clear h3 h0
        have HD := Lib.hid hd; have HML := Lib.hid hml; have HLAST := Lib.hid hlast; have HMM := Lib.hid hm
        clear hd hml hlast hm
        have BAD : ∀ h : ((b.toNat : Int) ≤ L ∨ n.toNat < 1 ∨ 32 < n.toNat ∨ m.length < n.toNat ∨ m.getD (n.toNat - 1) 0 = 0), typesS s.data.toList = none := fun h =>
          res_none HR.out (by rw [← HW.out, HD.out, types_bad h])
        have HBAD := Lib.hid BAD; clear BAD
        have HA0 := Lib.hid hA; clear hA hB HB
        have HBw := Lib.hid hB0
        clear hB0
        have h1i : (1 : Int) < (u.size : Int) := by omega
        go_wp2_with fail
        go_quiet (fail)
        obtain ⟨wq, hwq⟩ : ∃ wq, wr.drewN nq = wq := ⟨_, rfl⟩
        have hA : wq.ownsRow w.heap.size 3 1 u4 A.length (A.map bitV) := by rw [← hwq]; exact HA0.out
        have hB : Below w.heap.size w wq := by rw [← hwq]; exact HBw.out.trans (below_drewN _ _ _)
        have HB := Lib.hid hB
        rw [hwq]
        clear hwq
        by_cases c1 : (b.toNat : Int) ≤ L
        · have HF := Lib.hid (HBAD.out (.inl c1))
          clear hA
          go_wp2_with fail
          go_ret2
          exact ⟨HB.out, .inr ⟨HF.out, rfl⟩⟩
        have c1i : L < (b.toNat : Int) := by omega
        clear c1
        by_cases c2 : n.toNat < 1
        · have HF := Lib.hid (HBAD.out (.inr (.inl c2)))
          have c2i : (n.toNat : Int) < 1 := by omega
          have c2b : decide (n.toNat < 1) = true := by rw [decide_eq_true_eq]; exact c2
          clear hA c2
          go_wp2_with fail
          go_ret2
          exact ⟨HB.out, .inr ⟨HF.out, rfl⟩⟩
        have c2i : (1 : Int) ≤ (n.toNat : Int) := by omega
        have c2b : decide (n.toNat < 1) = false := by rw [decide_eq_false_iff_not]; exact c2
        clear c2
        by_cases c3 : 32 < n.toNat
        · have HF := Lib.hid (HBAD.out (.inr (.inr (.inl c3))))
          have c3i : (32 : Int) < (n.toNat : Int) := by omega
          have c3b : decide (32 < n.toNat) = true := by rw [decide_eq_true_eq]; exact c3
          clear hA c3
          go_wp2_with fail
          go_ret2
          exact ⟨HB.out, .inr ⟨HF.out, rfl⟩⟩
        have c3i : (n.toNat : Int) ≤ 32 := by omega
        have c3b : decide (32 < n.toNat) = false := by rw [decide_eq_false_iff_not]; exact c3
        clear c3
        by_cases c4 : m.length < n.toNat
        · have HF := Lib.hid (HBAD.out (.inr (.inr (.inr (.inl c4)))))
          have c4i : (u.size : Int) < 2 + (n.toNat : Int) := by have := HML.out; omega
          clear hA c4
          go_wp2_with fail
          go_ret2
          exact ⟨HB.out, .inr ⟨HF.out, rfl⟩⟩
        have c4i : 2 + (n.toNat : Int) ≤ (u.size : Int) := by have := HML.out; omega
        have HC4 := Lib.hid c4; clear c4
        have h1N : 1 + n.toNat < u.size := by omega
        obtain ⟨z, hz⟩ : ∃ z, u[1 + n.toNat] = z := ⟨_, rfl⟩
        have hz256 := byte_lt z
        have HZ : Hid (m.getD (n.toNat - 1) 0 = z) := Lib.hid (by
          rw [HLAST.out (n.toNat - 1) (by omega), show 2 + (n.toNat - 1) = 1 + n.toNat by omega, getD_at u (1 + n.toNat) h1N]; exact hz)
        by_cases c5 : z = 0
        · have HF := Lib.hid (HBAD.out (.inr (.inr (.inr (.inr (by rw [HZ.out]; exact c5))))))
          have hzb : ((z.toNat : Int) == 0) = true := by rw [c5]; rfl
          clear hA c5
          go_wp2_with fail
          go_ret2
          exact ⟨HB.out, .inr ⟨HF.out, rfl⟩⟩
        have hzb : ((z.toNat : Int) == 0) = false := by rw [beq_eq_false_iff_ne]; intro h; exact c5 (UInt8.toNat_inj.1 (by simpa using h))
        have c2n : 1 ≤ n.toNat := by omega
        have c3n : n.toNat ≤ 32 := by omega
        have hgo := types_go (last := L) (out := A) (b := b) (n := n) (m := m) (by
          rintro (h | h | h | h | h)
          · omega
          · omega
          · omega
          · exact HC4.out h
          · rw [HZ.out] at h; exact c5 h)
        have HGO : Hid (typesA (b.toNat : Int) (A ++ blockL b.toNat (m.take n.toNat)) (m.drop n.toNat) = R) := Lib.hid (by rw [← hgo, ← HD.out]; exact HW.out)
        clear hgo c5
        obtain ⟨A2, hA2⟩ : ∃ A2, A ++ blockL b.toNat (m.take n.toNat) = A2 := ⟨_, rfl⟩
        obtain ⟨BL, hBL⟩ : ∃ BL, bitsL (m.take n.toNat) = BL := ⟨_, rfl⟩
        have hBLl : BL.length = 8 * n.toNat := by rw [← hBL, bitsL_len, List.length_take]; have := HML.out; omega
        have HA2 : Hid (A ++ pickL b.toNat 0 (BL.drop 0) = A2) := Lib.hid (by rw [← hA2, List.drop_zero, ← hBL]; rfl)
        have HBIT : Hid (∀ k, k < 8 * n.toNat → ∀ (c : UInt8), (∀ h : 2 + k / 8 < u.size, u[2 + k / 8] = c) → BL[k]? = some (c.toNat / 2 ^ (7 - k % 8) % 2)) := Lib.hid (by
          intro k hk c hc
          have hml := HML.out
          have h1 := bitsL_get (m.take n.toNat) k (by rw [List.length_take]; omega)
          rw [hBL] at h1
          rw [h1]
          have h2 : 2 + k / 8 < u.size := by omega
          have h3 : (m.take n.toNat).getD (k / 8) 0 = c := by
            rw [List.getD_eq_getElem?_getD, List.getElem?_take, if_pos (by omega), ← List.getD_eq_getElem?_getD, HLAST.out (k / 8) h2, getD_at u _ h2]
            exact hc h2
          rw [h3])
        have HBLL := Lib.hid hBLl
        have HBLQ := Lib.hid hBL
        rw [hA2] at HGO
        clear hA2 hBL hBLl
        have hex : (u.extract 2 (2 + n.toNat)).data.toList = m.take n.toNat := by
          rw [Lib.extract_data, HMM.out]; congr 1; omega
        have CB := Lib.hid (fun w => bits_own (u.extract 2 (2 + n.toNat)) w (by rw [ByteArray.size_extract]; omega))
        rw [hex, HBLQ.out] at CB
        clear hex
        obtain ⟨nb, hnb⟩ : ∃ nb, BL.length = nb := ⟨_, rfl⟩
        rw [hnb] at CB
        have HNB := Lib.hid hnb; clear hnb
        have hnb8 : nb = 8 * n.toNat := by rw [← HNB.out]; exact HBLL.out
        have hlow := Lib.hid (own_low hA)
        have HA := Lib.hid hA
        clear hA
        have hle1 : 2 ≤ 2 + (n.toNat : Int) := by omega
        go_wp2_with fail
        refine (CB.out _).mono ?_
        rintro e w2 ⟨vb, rfl, hob, hB2⟩
        have hhigh := Lib.hid (own_high hob)
        have hob' := hob
        rw [← HNB.out] at hob'
        obtain ⟨ab, cb, rfl, hlb, hcb, hRb⟩ := RdN.of_own hob'
        rw [HNB.out] at hlb ⊢
        have hA := ownsRow_below HA.out hB2
        have hBn := HB.out.trans (hB2.mono HB.out.size)
        have hap : Apart u4 ab := Apart.low hlow.out (fun b hb => hhigh.out b _ _ (by rw [hb]))
        have hlt0 : ∀ b, ab = some b → b.block < w2.heap.size := fun b hb => own_low hob b.block (by rw [hb]; rfl)
        have HLT := Lib.hid hlt0; have HAP := Lib.hid hap; have HBn := Lib.hid hBn; have HRb := Lib.hid hRb; have HA' := Lib.hid hA
        clear hob hob' hB2 hRb hap hlt0 hA hBn HA hlow hhigh HB HBw HA0
        go_wp2_with fail
        go_loopg [4, 9, 55] (nb + 1) (fun gas ov _ kv wq => ∃ (k : Nat) (A' : List Nat), kv = .int .i64 k ∧ k ≤ nb ∧ nb + 1 ≤ k + gas ∧ Hid (A' ++ pickL b.toNat k (BL.drop k) = A2) ∧ A'.length ≤ A.length + k ∧ wq.ownsRow w.heap.size 3 1 ov A'.length (A'.map bitV) ∧ Below w.heap.size w wq ∧ Hid (RdN wq ab BL) ∧ Hid (Apart ov ab) ∧ Hid (∀ b, ab = some b → b.block < wq.heap.size))
        case atStart => exact ⟨0, A, rfl, by omega, by omega, HA2, by omega, HA'.out, HBn.out, HRb, HAP, HLT⟩
        case round =>
          clear HRb HAP HLT HA' HBn
          obtain ⟨k, A', rfl, hk, hkg, HV, hAl, hA', hB', HRb, HAP, HLT⟩ := hrel
          have HKG := Lib.hid hkg; clear hkg
          have HB' := Lib.hid hB'
          by_cases hlt : k < nb
          · obtain ⟨x, hx⟩ : ∃ x, BL[k]? = some x := ⟨_, List.getElem?_eq_getElem (by have := HNB.out; omega)⟩
            obtain ⟨g, o, rfl, hg, hcell⟩ := HRb.out k x hx
            unfold bitV at hcell
            have HST := Lib.hid (pick_snoc HV.out hx)
            clear hx
            by_cases hx1 : x = 1
            · have hxb : ((x : Int) == 1) = true := by rw [beq_iff_eq]; omega
              obtain ⟨t, ht⟩ : ∃ t, b.toNat * 256 + k = t := ⟨_, rfl⟩
              have HXT : Hid ((b.toNat : Int) * 256 + (k : Int) = (t : Int)) := Lib.hid (by omega)
              have HST2 : Hid ((A' ++ [t]) ++ pickL b.toNat (k + 1) (BL.drop (k + 1)) = A2) := Lib.hid (by rw [← ht]; simpa [hx1] using HST.out)
              have hAb : A'.length + 1 ≤ 8388609 := by omega
              have hsz := hB'.size
              clear ht HST hx1
              go_wp2_with (at_builtin; refine wpList_append_own_at _ rfl _ _ 83 rfl w.heap.size 3 i0 (.int .i64 0) 1 8 Tryz.underlying83 hi hz0 hz1 hz2 rfl (by decide) _ _ _ rfl (hA'.alloc _) ⟨wr.heap.size, 0, none⟩ 1 1 [.int .i64 ((b.toNat : Int) * 256 + (k : Int))] rfl rfl ?c1 ?c2 ?c3 ?c4 ?c5 ?_)
              case c1 => exact cell_one_new _ _ _
              case c2 => simp [Value.oneCell']
              case c3 => unfold maxLen; omega
              case c4 => omega
              case c5 => simp; omega
              intro v' w1 hown' hgrow hnil hat
              rw [HXT.out] at hown'
              have hown2 := own_snocN hown'
              have hB2 := below_append hB' hsz hA' hgrow
              have HRb2 := Lib.hid (RdN.kept HRb.out hgrow HAP.out)
              have HAP2 := Lib.hid (Apart.next HAP.out HLT.out hat)
              have HLT2 : Hid (∀ b, some (⟨g, o, none⟩ : Addr) = some b → b.block < w1.heap.size) := Lib.hid (fun b hb => by
                have h1 := HLT.out b hb
                have h2 := hgrow.size
                rw [World.size_alloc] at h2; omega)
              clear hown' hgrow hA' hnil hat
              go_wp2_with fail
              have hkg := HKG.out
              go_roundg (gk - 1)
              case rel => exact ⟨k + 1, A' ++ [t], by go_num, by omega, by omega, HST2, by simp; omega, hown2, hB2, HRb2, HAP2, HLT2⟩
              case measure => omega
            · have hxb : ((x : Int) == 1) = false := by rw [beq_eq_false_iff_ne]; omega
              have HST2 : Hid (A' ++ pickL b.toNat (k + 1) (BL.drop (k + 1)) = A2) := Lib.hid (by simpa [hx1] using HST.out)
              clear hx1 HST
              go_wp2_with fail
              have hkg := HKG.out
              go_roundg (gk - 1)
              case rel => exact ⟨k + 1, A', by go_num, by omega, by omega, HST2, by omega, hA', hB', HRb, HAP, HLT⟩
              case measure => omega
          · have hke : k = nb := by omega
            have HAE := Lib.hid (pick_end HV.out (by have := HNB.out; omega))
            have hA2l : A2.length ≤ A.length + 8 * n.toNat := by rw [← HAE.out]; omega
            rw [HAE.out] at hA'
            subst hke
            have hu2 : (u.extract (2 + n.toNat) u.size).data.toList = m.drop n.toNat := by
              rw [Lib.extract_data, List.take_of_length_le (by rw [List.length_drop, size_len]; exact Nat.le_refl _), ← HMM.out, List.drop_drop]
            have hus2 : (u.extract (2 + n.toNat) u.size).size = u.size - (2 + n.toNat) := by rw [ByteArray.size_extract]; omega
            have HU2 := Lib.hid hu2; have HUS2 := Lib.hid hus2
            clear hu2 hus2
            go_wp2_with fail
            have hG := HG.out
            go_roundg (gk' - 1)
            case rel =>
              have h2 := HUS2.out
              exact ⟨_, _, A2, rfl, rfl, by omega, by omega, by omega, by omega, by omega, by rw [HU2.out]; exact HGO, hA', hB'⟩
            case measure => omega
end Go.Proofs.YtjejmgdpjfdhjaaGreatDoor.typesR
namespace Go.Proofs.YtjejmgdpjfdhjaaGreatDoor.hostP
open Go.Proofs.YtjejmgdpjfdhjaaGreatDoor.kit Go.Proofs.YtjejmgdpjfdhjaaGreatDoor.nspec Go.Proofs.YtjejmgdpjfdhjaaGreatDoor.nameA Go.Proofs.YtjejmgdpjfdhjaaGreatDoor.fld
set_option linter.unusedVariables false

theorem put_head (ls : List Bs) (j : Nat) (h : j ≤ ls.length) : (put ls)[room (ls.take j)]? = some (if h2 : j < ls.length then UInt8.ofNat (ls[j]).length else 0) := by
  have e : (put ls)[room (ls.take j)]? = ((put ls).drop (room (ls.take j)))[0]? := by simp
  rw [e, put_drop]
  by_cases h2 : j < ls.length
  · rw [dif_pos h2, List.drop_eq_getElem_cons h2]; rfl
  · rw [dif_neg h2, List.drop_eq_nil_iff.2 (by omega)]; rfl
theorem room_step (ls : List Bs) (j : Nat) (h : j < ls.length) : room (ls.take (j + 1)) = room (ls.take j) + 1 + (ls[j]).length := by
  rw [List.take_succ_eq_append_getElem h, room_append]; simp [room]; omega
theorem room_le (ls : List Bs) (j : Nat) : room (ls.take j) ≤ room ls := by
  have := room_append (ls.take j) (ls.drop j)
  rw [List.take_append_drop] at this; omega
theorem take_at {d : Bs} {k a : Nat} (ha : a < k) : (d.take k)[a]? = d[a]? := by rw [List.getElem?_take]; simp [ha]

/-- how far the scan has come: at the head of a label of each name that stands first -/
def Scan (d : Bs) (a : Nat) : Prop := ∀ (k : Nat) (ls : List Bs), k ≤ d.length → IsN (d.take k) ls → ∃ j, j ≤ ls.length ∧ a = room (ls.take j)
theorem name_len {d : Bs} {k : Nat} {ls : List Bs} (hk : k ≤ d.length) (h : IsN (d.take k) ls) : k = room ls + 1 := by
  have := congrArg List.length h.1
  rw [put_length, List.length_take] at this; omega
theorem Scan.start (d : Bs) : Scan d 0 := fun k ls _ _ => ⟨0, Nat.zero_le _, rfl⟩
theorem Scan.step {d : Bs} {a : Nat} {c : UInt8} (h : Scan d a) (hc : d[a]? = some c) (h0 : c.toNat ≠ 0) : Scan d (a + (1 + c.toNat)) := by
  intro k ls hk hN
  obtain ⟨j, hj, rfl⟩ := h k ls hk hN
  have hl := name_len hk hN
  have hr := room_le ls j
  have hp := put_head ls j hj
  rw [← hN.1, take_at (by omega), hc] at hp
  by_cases h2 : j < ls.length
  · rw [dif_pos h2] at hp
    have he : c = UInt8.ofNat (ls[j]).length := by simpa using hp
    have hx := hN.2.1 _ (List.getElem_mem h2)
    have hn : c.toNat = (ls[j]).length := by rw [he]; exact nat_of (by omega)
    exact ⟨j + 1, by omega, by rw [room_step ls j h2]; omega⟩
  · rw [dif_neg h2] at hp
    have he : c = 0 := by simpa using hp
    rw [he] at h0; exact absurd rfl h0
theorem host_none {d : Bs} (h : ∀ (k : Nat) (ls : List Bs), k ≤ d.length → ¬ IsN (d.take k) ls) : hostS d = -1 := by
  have : (List.range 256).find? (fun k => (split (d.take k)).isSome) = none := by
    rw [List.find?_eq_none]
    intro k _ hs
    obtain ⟨ls, hls⟩ := Option.isSome_iff_exists.1 hs
    have hN := split_iff.1 hls
    rcases Nat.lt_or_ge d.length k with h1 | h1
    · rw [List.take_of_length_le (by omega)] at hN
      exact h d.length ls (Nat.le_refl _) (by rw [List.take_of_length_le (Nat.le_refl _)]; exact hN)
    · exact h k ls h1 hN
  unfold hostS; rw [this]
theorem host_some {d : Bs} {m : Nat} {ls : List Bs} (hm : m ≤ d.length) (hN : IsN (d.take m) ls) (h : ∀ (k : Nat) (ls : List Bs), k < m → ¬ IsN (d.take k) ls) : hostS d = (m : Int) := by
  have hl := hN.2.2
  rw [List.length_take] at hl
  have : (List.range 256).find? (fun k => (split (d.take k)).isSome) = some m := by
    rw [List.find?_range_eq_some]
    refine ⟨?_, by rw [List.mem_range]; omega, ?_⟩
    · rw [split_iff.2 hN]; rfl
    · intro j hj
      cases hs : split (d.take j) with
      | none => rfl
      | some l => exact absurd (split_iff.1 hs) (h j l hj)
  unfold hostS; rw [this]
theorem Scan.far {d : Bs} {a : Nat} (h : Scan d a) (ha : d.length ≤ a) : hostS d = -1 := by
  refine host_none fun k ls hk hN => ?_
  obtain ⟨j, hj, rfl⟩ := h k ls hk hN
  have := name_len hk hN
  have := room_le ls j
  omega
theorem Scan.no {d : Bs} {a : Nat} (h : Scan d a) (hz : d[a]? = some 0) (hs : split (d.take (a + 1)) = none) : hostS d = -1 := by
  have hlt := (List.getElem?_eq_some_iff.1 hz).1
  refine host_none fun k ls hk hN => ?_
  obtain ⟨j, hj, rfl⟩ := h k ls hk hN
  have hl := name_len hk hN
  have hr := room_le ls j
  have hp := put_head ls j hj
  rw [← hN.1, take_at (by omega), hz] at hp
  by_cases h2 : j < ls.length
  · rw [dif_pos h2] at hp
    have he : (0 : UInt8) = UInt8.ofNat (ls[j]).length := by simpa using hp
    have hx := hN.2.1 _ (List.getElem_mem h2)
    have hn : (0 : UInt8).toNat = (ls[j]).length := by rw [he]; exact nat_of (by omega)
    have : (0 : UInt8).toNat = 0 := rfl
    omega
  · have hje : j = ls.length := by omega
    subst hje
    rw [List.take_of_length_le (Nat.le_refl _)] at hs
    rw [← hl] at hs
    rw [split_iff.2 hN] at hs; simp at hs
theorem Scan.yes {d : Bs} {a : Nat} (h : Scan d a) (ha : a + 1 ≤ d.length) {ls : List Bs} (hN : IsN (d.take (a + 1)) ls) : hostS d = ((a + 1 : Nat) : Int) := by
  refine host_some ha hN fun k l hk hN2 => ?_
  obtain ⟨j, hj, rfl⟩ := h k l (by omega) hN2
  have := name_len (by omega) hN2
  have := room_le l j
  omega
end Go.Proofs.YtjejmgdpjfdhjaaGreatDoor.hostP
namespace Go.Proofs.YtjejmgdpjfdhjaaGreatDoor.hostT
open Go.RowKit Go.Proofs.YtjejmgdpjfdhjaaGreatDoor.kit Go.Proofs.YtjejmgdpjfdhjaaGreatDoor.check Go.Proofs.YtjejmgdpjfdhjaaGreatDoor.nspec Go.Proofs.YtjejmgdpjfdhjaaGreatDoor.rsplit Go.Proofs.YtjejmgdpjfdhjaaGreatDoor.fld Go.Proofs.YtjejmgdpjfdhjaaGreatDoor.hostP Go.Proofs.YtjejmgdpjfdhjaaGreatDoor.takes
set_option linter.unusedVariables false

theorem at_some {s : ByteArray} {a : Nat} {c : UInt8} (h : a < s.size) (hc : s[a] = c) : s.data.toList[a]? = some c := by
  have h' : a < s.data.toList.length := by rw [size_len]; exact h
  rw [List.getElem?_eq_getElem h', ← hc]; rfl
theorem ext0 (s : ByteArray) (n : Nat) : (s.extract 0 n).data.toList = s.data.toList.take n := by rw [Lib.extract_data]; simp

set_option maxRecDepth 100000 in
set_option maxHeartbeats 2000000 in
theorem host_any (s : ByteArray) (w : World) (hs : s.size ≤ 1099511627776) :
    Calls Tryz.prog 107 #[.agg #[], .string s] w fun e w' => e = .returned (.int .i64 (takeS .host s.data.toList)) ∧ Below w.heap.size w w' := by
  have hBa := Lib.hid ((Below.refl w.heap.size w).alloc (Nat.le_refl _) (.cells #[] 67))
  have HS0 := Lib.hid (Scan.start s.data.toList)
  obtain ⟨R, HR⟩ : ∃ R, Hid (hostS s.data.toList = R) := ⟨_, Lib.hid rfl⟩
  have HT : Hid (takeS .host s.data.toList = R) := Lib.hid HR.out
  rw [HT.out]
  go_enter Tryz.func107, Tryz.ntmps107
  go_wp2_with fail
  go_loopg [5] (s.size + 300) (fun gas av wr => ∃ a : Nat, av = .int .i64 a ∧ a ≤ s.size + 256 ∧ s.size + 258 ≤ a + gas ∧ Hid (Scan s.data.toList a) ∧ Below w.heap.size w wr)
  case atStart => exact ⟨0, rfl, by omega, by omega, HS0, hBa.out⟩
  case round =>
    obtain ⟨a, rfl, ha, hgas, HS, hB⟩ := hrel
    have HG := Lib.hid hgas; clear hgas
    have HB := Lib.hid hB; clear hB
    by_cases hlt : a < s.size
    · obtain ⟨c, hc⟩ : ∃ c, s[a] = c := ⟨_, rfl⟩
      have hc256 := byte_lt c
      have HC := Lib.hid (at_some hlt hc)
      by_cases h0 : c.toNat = 0
      · have hc0 : c = 0 := UInt8.toNat_inj.1 h0
        have hz : ((c.toNat : Int)) = 0 := by omega
        have hb : decide (0 < c.toNat) = false := by rw [decide_eq_false_iff_not]; omega
        have hes : (s.extract 0 (a + 1)).data.toList = s.data.toList.take (a + 1) := ext0 s (a + 1)
        have CK := Lib.hid (fun w => check_any (s.extract 0 (a + 1)) w (by rw [ByteArray.size_extract]; omega))
        have hle : (a : Int) + 1 ≤ (s.size : Int) := by omega
        have hlt2 : (a : Int) < (s.size : Int) := by omega
        rcases isB_or (s.extract 0 (a + 1)) with ⟨ls, hN⟩ | hN
        · rw [chk_yes hN] at CK
          rw [hes] at hN
          have HY := Lib.hid (HS.out.yes (by rw [size_len]; omega) hN)
          clear h0 hz hc0 hes hN
          go_wp2_with fail
          refine (CK.out _).mono ?_
          rintro e w1 ⟨rfl, hB1⟩
          have HB1 := Lib.hid (HB.out.trans (hB1.mono HB.out.size)); clear hB1
          go_wp2_with fail
          go_ret
          exact ⟨by rw [← HR.out, HY.out]; rfl, HB1.out⟩
        · rw [chk_no hN] at CK
          rw [hes] at hN
          have HY := Lib.hid (HS.out.no (by rw [HC.out, hc0]) hN)
          clear h0 hz hc0 hes hN
          go_wp2_with fail
          refine (CK.out _).mono ?_
          rintro e w1 ⟨rfl, hB1⟩
          have HB1 := Lib.hid (HB.out.trans (hB1.mono HB.out.size)); clear hB1
          go_wp2_with fail
          go_ret
          exact ⟨by rw [← HR.out, HY.out]; rfl, HB1.out⟩
      · have HS2 := Lib.hid (HS.out.step HC.out h0)
        have hb : decide (0 < c.toNat) = true := by rw [decide_eq_true_eq]; omega
        clear h0
        go_wp2_with fail
        have hgas := HG.out
        go_roundg (gk - 1)
        case rel => exact ⟨a + (1 + c.toNat), by go_num, by omega, by omega, HS2, HB.out⟩
        case measure => omega
    · have HY := Lib.hid (HS.out.far (by rw [size_len]; omega))
      have hge : (s.size : Int) ≤ (a : Int) := by omega
      clear hlt
      go_wp2_with fail
      go_ret
      exact ⟨by rw [← HR.out, HY.out]; rfl, HB.out⟩
end Go.Proofs.YtjejmgdpjfdhjaaGreatDoor.hostT
namespace Go.Proofs.YtjejmgdpjfdhjaaGreatDoor.rsize
open Go.RowKit Go.Proofs.YtjejmgdpjfdhjaaGreatDoor.kit Go.Proofs.YtjejmgdpjfdhjaaGreatDoor.nspec Go.Proofs.YtjejmgdpjfdhjaaGreatDoor.rsplit Go.Proofs.YtjejmgdpjfdhjaaGreatDoor.fld Go.Proofs.YtjejmgdpjfdhjaaGreatDoor.takes Go.Proofs.YtjejmgdpjfdhjaaGreatDoor.hostP Go.Proofs.YtjejmgdpjfdhjaaGreatDoor.hostT Go.Proofs.YtjejmgdpjfdhjaaGreatDoor.textsT Go.Proofs.YtjejmgdpjfdhjaaGreatDoor.typesW Go.Proofs.YtjejmgdpjfdhjaaGreatDoor.typesR
set_option linter.unusedVariables false

def letterOf : Fld → Nat
  | .num k => 48 + k | .ip4 => 97 | .ip6 => 54 | .host => 110 | .text => 116 | .texts => 84 | .tail => 114 | .hexes => 104 | .b64 => 98 | .kind => 107 | .kinds => 75 | .salt => 115 | .hash => 72
theorem kind_list : ∀ (d : Bs), 2 ≤ d.length → takeS .kind d = if (d.take 2 == [0, 0]) = true then -1 else 2
  | [], h => by simp at h
  | [x], h => by simp at h
  | x :: y :: r, h => by
    show (if (r.length + 1 + 1) < 2 ∨ (x = 0 ∧ y = 0) then (-1 : Int) else 2) = if ([x, y] == [0, 0]) = true then -1 else 2
    by_cases hxy : x = 0 ∧ y = 0
    · rw [if_pos (.inr hxy), if_pos (by rw [hxy.1, hxy.2]; rfl)]
    · have hn : ¬ ((r.length + 1 + 1) < 2 ∨ (x = 0 ∧ y = 0)) := by
        rintro (h | h)
        · omega
        · exact hxy h
      have hm : ¬ (([x, y] == [0, 0]) = true) := by simpa using hxy
      rw [if_neg hn, if_neg hm]
def SaysSz (f : Fld) (s : ByteArray) (w : World) (e : Ending) (w' : World) : Prop := e = .returned (.int .i64 (takeS f s.data.toList)) ∧ Below w.heap.size w w'

set_option maxRecDepth 100000 in
set_option maxHeartbeats 2000000 in
theorem size_1 (s : ByteArray) (w : World) (hs : s.size ≤ 65535) : Calls Tryz.prog 42 #[.int .u8 49, .string s] w (SaysSz (.num 1) s w) := by
  have HE : Hid (takeS (.num 1) s.data.toList = if s.size < 1 then -1 else 1) := Lib.hid (by simp only [takeS]; rw [size_len]; rfl)
  unfold SaysSz
  rw [HE.out]
  by_cases h : s.size < 1
  · rw [if_pos h]
    have hi : (s.size : Int) < 1 := by omega
    go_enter Tryz.func42, Tryz.ntmps42
    go_wp2_with fail
    go_ret
    exact ⟨rfl, Below.refl _ _⟩
  · rw [if_neg h]
    have hi : (1 : Int) ≤ (s.size : Int) := by omega
    go_enter Tryz.func42, Tryz.ntmps42
    go_wp2_with fail
    go_ret
    exact ⟨rfl, Below.refl _ _⟩

set_option maxRecDepth 100000 in
set_option maxHeartbeats 2000000 in
theorem size_2 (s : ByteArray) (w : World) (hs : s.size ≤ 65535) : Calls Tryz.prog 42 #[.int .u8 50, .string s] w (SaysSz (.num 2) s w) := by
  have HE : Hid (takeS (.num 2) s.data.toList = if s.size < 2 then -1 else 2) := Lib.hid (by simp only [takeS]; rw [size_len]; rfl)
  unfold SaysSz
  rw [HE.out]
  by_cases h : s.size < 2
  · rw [if_pos h]
    have hi : (s.size : Int) < 2 := by omega
    go_enter Tryz.func42, Tryz.ntmps42
    go_wp2_with fail
    go_ret
    exact ⟨rfl, Below.refl _ _⟩
  · rw [if_neg h]
    have hi : (2 : Int) ≤ (s.size : Int) := by omega
    go_enter Tryz.func42, Tryz.ntmps42
    go_wp2_with fail
    go_ret
    exact ⟨rfl, Below.refl _ _⟩

set_option maxRecDepth 100000 in
set_option maxHeartbeats 2000000 in
theorem size_4 (s : ByteArray) (w : World) (hs : s.size ≤ 65535) : Calls Tryz.prog 42 #[.int .u8 52, .string s] w (SaysSz (.num 4) s w) := by
  have HE : Hid (takeS (.num 4) s.data.toList = if s.size < 4 then -1 else 4) := Lib.hid (by simp only [takeS]; rw [size_len]; rfl)
  unfold SaysSz
  rw [HE.out]
  by_cases h : s.size < 4
  · rw [if_pos h]
    have hi : (s.size : Int) < 4 := by omega
    go_enter Tryz.func42, Tryz.ntmps42
    go_wp2_with fail
    go_ret
    exact ⟨rfl, Below.refl _ _⟩
  · rw [if_neg h]
    have hi : (4 : Int) ≤ (s.size : Int) := by omega
    go_enter Tryz.func42, Tryz.ntmps42
    go_wp2_with fail
    go_ret
    exact ⟨rfl, Below.refl _ _⟩

set_option maxRecDepth 100000 in
set_option maxHeartbeats 2000000 in
theorem size_ip4 (s : ByteArray) (w : World) (hs : s.size ≤ 65535) : Calls Tryz.prog 42 #[.int .u8 97, .string s] w (SaysSz .ip4 s w) := by
  have HE : Hid (takeS .ip4 s.data.toList = if s.size < 4 then -1 else 4) := Lib.hid (by simp only [takeS]; rw [size_len])
  unfold SaysSz
  rw [HE.out]
  by_cases h : s.size < 4
  · rw [if_pos h]
    have hi : (s.size : Int) < 4 := by omega
    go_enter Tryz.func42, Tryz.ntmps42
    go_wp2_with fail
    go_ret
    exact ⟨rfl, Below.refl _ _⟩
  · rw [if_neg h]
    have hi : (4 : Int) ≤ (s.size : Int) := by omega
    go_enter Tryz.func42, Tryz.ntmps42
    go_wp2_with fail
    go_ret
    exact ⟨rfl, Below.refl _ _⟩

set_option maxRecDepth 100000 in
set_option maxHeartbeats 2000000 in
theorem size_ip6 (s : ByteArray) (w : World) (hs : s.size ≤ 65535) : Calls Tryz.prog 42 #[.int .u8 54, .string s] w (SaysSz .ip6 s w) := by
  have HE : Hid (takeS .ip6 s.data.toList = if s.size < 16 then -1 else 16) := Lib.hid (by simp only [takeS]; rw [size_len])
  unfold SaysSz
  rw [HE.out]
  by_cases h : s.size < 16
  · rw [if_pos h]
    have hi : (s.size : Int) < 16 := by omega
    go_enter Tryz.func42, Tryz.ntmps42
    go_wp2_with fail
    go_ret
    exact ⟨rfl, Below.refl _ _⟩
  · rw [if_neg h]
    have hi : (16 : Int) ≤ (s.size : Int) := by omega
    go_enter Tryz.func42, Tryz.ntmps42
    go_wp2_with fail
    go_ret
    exact ⟨rfl, Below.refl _ _⟩

set_option maxRecDepth 100000 in
set_option maxHeartbeats 2000000 in
theorem size_tail (s : ByteArray) (w : World) (hs : s.size ≤ 65535) : Calls Tryz.prog 42 #[.int .u8 114, .string s] w (SaysSz .tail s w) := by
  have HE : Hid (takeS .tail s.data.toList = (s.size : Int)) := Lib.hid (by simp only [takeS]; rw [size_len])
  unfold SaysSz
  rw [HE.out]
  go_enter Tryz.func42, Tryz.ntmps42
  go_wp2_with fail
  go_ret
  exact ⟨rfl, Below.refl _ _⟩

set_option maxRecDepth 100000 in
set_option maxHeartbeats 2000000 in
theorem size_hexes (s : ByteArray) (w : World) (hs : s.size ≤ 65535) : Calls Tryz.prog 42 #[.int .u8 104, .string s] w (SaysSz .hexes s w) := by
  unfold SaysSz
  by_cases h0 : s.size = 0
  · have he := emp_yes h0
    have HE : Hid (takeS .hexes s.data.toList = -1) := Lib.hid (by rw [← Lib.toList_data, he]; rfl)
    rw [HE.out]
    clear h0
    go_enter Tryz.func42, Tryz.ntmps42
    go_wp2_with fail
    go_ret
    exact ⟨rfl, Below.refl _ _⟩
  · have he := emp_no (s := s) (by omega)
    have HE : Hid (takeS .hexes s.data.toList = (s.size : Int)) := Lib.hid (by simp only [takeS, someS]; rw [if_neg (by intro h; rw [← size_len, h] at h0; simp at h0), size_len])
    rw [HE.out]
    clear h0
    go_enter Tryz.func42, Tryz.ntmps42
    go_wp2_with fail
    go_ret
    exact ⟨rfl, Below.refl _ _⟩

set_option maxRecDepth 100000 in
set_option maxHeartbeats 2000000 in
theorem size_b64 (s : ByteArray) (w : World) (hs : s.size ≤ 65535) : Calls Tryz.prog 42 #[.int .u8 98, .string s] w (SaysSz .b64 s w) := by
  unfold SaysSz
  by_cases h0 : s.size = 0
  · have he := emp_yes h0
    have HE : Hid (takeS .b64 s.data.toList = -1) := Lib.hid (by rw [← Lib.toList_data, he]; rfl)
    rw [HE.out]
    clear h0
    go_enter Tryz.func42, Tryz.ntmps42
    go_wp2_with fail
    go_ret
    exact ⟨rfl, Below.refl _ _⟩
  · have he := emp_no (s := s) (by omega)
    have HE : Hid (takeS .b64 s.data.toList = (s.size : Int)) := Lib.hid (by simp only [takeS, someS]; rw [if_neg (by intro h; rw [← size_len, h] at h0; simp at h0), size_len])
    rw [HE.out]
    clear h0
    go_enter Tryz.func42, Tryz.ntmps42
    go_wp2_with fail
    go_ret
    exact ⟨rfl, Below.refl _ _⟩

set_option maxRecDepth 100000 in
set_option maxHeartbeats 2000000 in
theorem size_text (s : ByteArray) (w : World) (hs : s.size ≤ 65535) : Calls Tryz.prog 42 #[.int .u8 116, .string s] w (SaysSz .text s w) := by
  unfold SaysSz
  have H0 : Hid (takeS .text s.data.toList = textS s.data.toList) := Lib.hid rfl
  rw [H0.out]
  by_cases h0 : s.size = 0
  · have HE : Hid (textS s.data.toList = -1) := Lib.hid (by rw [← Lib.toList_data, emp_yes h0]; rfl)
    rw [HE.out]
    have hb : ((s.size : Int) == 0) = true := by rw [beq_iff_eq]; omega
    clear h0
    go_enter Tryz.func42, Tryz.ntmps42
    go_wp2_with fail
    go_ret
    exact ⟨rfl, Below.refl _ _⟩
  · have h1 : 0 < s.size := by omega
    have HT := Lib.hid (textS_at h1)
    rw [HT.out]
    have hb : ((s.size : Int) == 0) = false := by rw [beq_eq_false_iff_ne]; omega
    obtain ⟨c, hc⟩ : ∃ c, s[0] = c := ⟨_, rfl⟩
    have hc256 := byte_lt c
    rw [hc]
    clear h0
    by_cases h2 : (s.size : Int) ≤ (c.toNat : Int)
    · rw [if_pos h2]
      have h3 : (s.size : Int) < 1 + (c.toNat : Int) := by omega
      go_enter Tryz.func42, Tryz.ntmps42
      go_wp2_with fail
      go_ret
      exact ⟨rfl, Below.refl _ _⟩
    · rw [if_neg h2]
      have h3 : 1 + (c.toNat : Int) ≤ (s.size : Int) := by omega
      clear h2
      go_enter Tryz.func42, Tryz.ntmps42
      go_wp2_with fail
      go_ret
      exact ⟨rfl, Below.refl _ _⟩

set_option maxRecDepth 100000 in
set_option maxHeartbeats 2000000 in
theorem size_salt (s : ByteArray) (w : World) (hs : s.size ≤ 65535) : Calls Tryz.prog 42 #[.int .u8 115, .string s] w (SaysSz .salt s w) := by
  unfold SaysSz
  have H0 : Hid (takeS .salt s.data.toList = textS s.data.toList) := Lib.hid rfl
  rw [H0.out]
  by_cases h0 : s.size = 0
  · have HE : Hid (textS s.data.toList = -1) := Lib.hid (by rw [← Lib.toList_data, emp_yes h0]; rfl)
    rw [HE.out]
    have hb : ((s.size : Int) == 0) = true := by rw [beq_iff_eq]; omega
    clear h0
    go_enter Tryz.func42, Tryz.ntmps42
    go_wp2_with fail
    go_ret
    exact ⟨rfl, Below.refl _ _⟩
  · have h1 : 0 < s.size := by omega
    have HT := Lib.hid (textS_at h1)
    rw [HT.out]
    have hb : ((s.size : Int) == 0) = false := by rw [beq_eq_false_iff_ne]; omega
    obtain ⟨c, hc⟩ : ∃ c, s[0] = c := ⟨_, rfl⟩
    have hc256 := byte_lt c
    rw [hc]
    clear h0
    by_cases h2 : (s.size : Int) ≤ (c.toNat : Int)
    · rw [if_pos h2]
      have h3 : (s.size : Int) < 1 + (c.toNat : Int) := by omega
      go_enter Tryz.func42, Tryz.ntmps42
      go_wp2_with fail
      go_ret
      exact ⟨rfl, Below.refl _ _⟩
    · rw [if_neg h2]
      have h3 : 1 + (c.toNat : Int) ≤ (s.size : Int) := by omega
      clear h2
      go_enter Tryz.func42, Tryz.ntmps42
      go_wp2_with fail
      go_ret
      exact ⟨rfl, Below.refl _ _⟩

set_option maxRecDepth 100000 in
set_option maxHeartbeats 2000000 in
theorem size_hash (s : ByteArray) (w : World) (hs : s.size ≤ 65535) : Calls Tryz.prog 42 #[.int .u8 72, .string s] w (SaysSz .hash s w) := by
  unfold SaysSz
  by_cases h0 : s.size = 0
  · have HE : Hid (takeS .hash s.data.toList = -1) := Lib.hid (by rw [← Lib.toList_data, emp_yes h0]; rfl)
    rw [HE.out]
    have hb : ((s.size : Int) == 0) = true := by rw [beq_iff_eq]; omega
    clear h0
    go_enter Tryz.func42, Tryz.ntmps42
    go_wp2_with fail
    go_ret
    exact ⟨rfl, Below.refl _ _⟩
  · have h1 : 0 < s.size := by omega
    have hb : ((s.size : Int) == 0) = false := by rw [beq_eq_false_iff_ne]; omega
    have ht := textS_at h1
    have hd := data_cons h1
    obtain ⟨c, hc⟩ : ∃ c, s[0] = c := ⟨_, rfl⟩
    have hc256 := byte_lt c
    rw [hc] at ht hd
    clear h0
    by_cases h2 : (s.size : Int) ≤ (c.toNat : Int)
    · have HE : Hid (takeS .hash s.data.toList = -1) := Lib.hid (by
        simp only [takeS]; rw [ht, if_pos h2]; split <;> rfl)
      rw [HE.out]
      have h3 : (s.size : Int) < 1 + (c.toNat : Int) := by omega
      clear ht hd
      go_enter Tryz.func42, Tryz.ntmps42
      go_wp2_with fail
      go_ret
      exact ⟨rfl, Below.refl _ _⟩
    · have h3 : 1 + (c.toNat : Int) ≤ (s.size : Int) := by omega
      by_cases hz : c = 0
      · have HE : Hid (takeS .hash s.data.toList = -1) := Lib.hid (by simp only [takeS]; rw [if_pos (.inr (by rw [hd]; exact hz))])
        rw [HE.out]
        have hzb : ((c.toNat : Int) == 0) = true := by rw [hz]; rfl
        clear ht hd h2 hz
        go_enter Tryz.func42, Tryz.ntmps42
        go_wp2_with fail
        go_ret
        exact ⟨rfl, Below.refl _ _⟩
      · have HE : Hid (takeS .hash s.data.toList = 1 + (c.toNat : Int)) := Lib.hid (by
          have hn : ¬ (s.data.toList = [] ∨ s.data.toList.getD 0 0 = 0) := by
            rintro (h | h)
            · rw [h] at hd; simp at hd
            · rw [hd] at h; exact hz h
          simp only [takeS]; rw [if_neg hn, ht, if_neg h2]; simp)
        rw [HE.out]
        have hzb : ((c.toNat : Int) == 0) = false := by rw [beq_eq_false_iff_ne]; intro h; exact hz (UInt8.toNat_inj.1 (by simpa using h))
        clear ht hd h2 hz
        go_enter Tryz.func42, Tryz.ntmps42
        go_wp2_with fail
        go_ret
        exact ⟨rfl, Below.refl _ _⟩

set_option maxRecDepth 100000 in
set_option maxHeartbeats 2000000 in
theorem size_kind (s : ByteArray) (w : World) (hs : s.size ≤ 65535) : Calls Tryz.prog 42 #[.int .u8 107, .string s] w (SaysSz .kind s w) := by
  unfold SaysSz
  by_cases h2 : 2 ≤ s.size
  · have hl : 2 ≤ s.data.toList.length := by rw [size_len]; exact h2
    have he : (s.extract 0 2).toList = s.data.toList.take 2 := by rw [Lib.toList_data, ext0]
    have h2i : (2 : Int) ≤ (s.size : Int) := by omega
    obtain ⟨b, hb⟩ : ∃ b, ((s.extract 0 2).toList == [0, 0]) = b := ⟨_, rfl⟩
    have HE : Hid (takeS .kind s.data.toList = if b = true then -1 else 2) := Lib.hid (by rw [← hb, he]; exact kind_list _ hl)
    rw [HE.out]
    clear he hl h2
    cases b with
    | true =>
      go_enter Tryz.func42, Tryz.ntmps42
      go_wp2_with fail
      go_ret
      exact ⟨rfl, Below.refl _ _⟩
    | false =>
      go_enter Tryz.func42, Tryz.ntmps42
      go_wp2_with fail
      go_ret
      exact ⟨rfl, Below.refl _ _⟩
  · have HE : Hid (takeS .kind s.data.toList = -1) := Lib.hid (by simp only [takeS]; rw [if_pos (.inl (by rw [size_len]; omega))])
    rw [HE.out]
    have h2i : (s.size : Int) < 2 := by omega
    clear h2
    go_enter Tryz.func42, Tryz.ntmps42
    go_wp2_with fail
    go_ret
    exact ⟨rfl, Below.refl _ _⟩

set_option maxRecDepth 100000 in
set_option maxHeartbeats 2000000 in
theorem size_kinds (s : ByteArray) (w : World) (hs : s.size ≤ 65535) : Calls Tryz.prog 42 #[.int .u8 75, .string s] w (SaysSz .kinds s w) := by
  unfold SaysSz
  have C := Lib.hid (fun w => rtypes_any s w (by omega))
  obtain ⟨R, HR⟩ : ∃ R, Hid (takeS .kinds s.data.toList = R) := ⟨_, Lib.hid rfl⟩
  rw [HR.out]
  go_enter Tryz.func42, Tryz.ntmps42
  go_wp2_with fail
  refine (C.out _).mono ?_
  rintro e w1 ⟨hB1, ⟨v, l, hl, rfl, _⟩ | ⟨hl, rfl⟩⟩
  · have HN : Hid ((s.size : Int) = R) := Lib.hid (by rw [← HR.out]; simp only [takeS]; rw [if_neg (by rw [hl]; simp), size_len])
    clear hl
    go_wp2_with fail
    go_ret
    exact ⟨by rw [← HN.out]; rfl, hB1⟩
  · have HN : Hid ((-1 : Int) = R) := Lib.hid (by rw [← HR.out]; simp only [takeS]; rw [if_pos hl])
    clear hl
    go_wp2_with fail
    go_ret
    exact ⟨by rw [← HN.out]; rfl, hB1⟩
end Go.Proofs.YtjejmgdpjfdhjaaGreatDoor.rsize
