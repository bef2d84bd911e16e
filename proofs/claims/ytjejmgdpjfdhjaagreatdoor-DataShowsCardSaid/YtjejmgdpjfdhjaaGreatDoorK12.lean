/- data.ip6's 'show': walk. -/
import Derived.Test.YtjejmgdpjfdhjaaGreatDoorK11
namespace Go.Proofs.YtjejmgdpjfdhjaaGreatDoor.ip6
open Go.RowKit Go.Proofs.YtjejmgdpjfdhjaaGreatDoor.kit Go.Proofs.YtjejmgdpjfdhjaaGreatDoor.nspec Go.Proofs.YtjejmgdpjfdhjaaGreatDoor.bits Go.Proofs.YtjejmgdpjfdhjaaGreatDoor.bld Go.Proofs.YtjejmgdpjfdhjaaGreatDoor.dshow Go.Proofs.YtjejmgdpjfdhjaaGreatDoor.rsplit Go.Proofs.YtjejmgdpjfdhjaaGreatDoor.dshowA Go.Proofs.YtjejmgdpjfdhjaaGreatDoor.dshowB Go.Proofs.YtjejmgdpjfdhjaaGreatDoor.fld Go.Proofs.YtjejmgdpjfdhjaaGreatDoor.small Go.Proofs.YtjejmgdpjfdhjaaGreatDoor.val Go.Proofs.YtjejmgdpjfdhjaaGreatDoor.fmt16
set_option linter.unusedVariables false

theorem zAt_eq (d : Bs) (p : Nat) (h : p < 8) : zAt (zs6 d) p = zeroG d p := by
  unfold zAt zs6
  rw [List.getD, List.getElem?_map, List.getElem?_range h]; rfl
theorem hAt_eq (d : Bs) (p : Nat) (h : p < 8) : (hs6 d).getD p [] = hexN (group d p) := by
  unfold hs6
  rw [List.getD, List.getElem?_map, List.getElem?_range h]; rfl
theorem zero_at (s : ByteArray) (p q : Nat) (h : q + 1 < s.size) (hq : 2 * p = q) : zeroG s.data.toList p = (((s[q]'(by omega)).toNat : Int) == 0 && ((s[q + 1]'h).toNat : Int) == 0) := by
  unfold zeroG
  rw [hq, getD_at s q (by omega), getD_at s (q + 1) h]
  have e : ∀ c : UInt8, (c == 0) = ((c.toNat : Int) == 0) := by
    intro c
    by_cases hc : c = 0
    · subst hc; rfl
    · have h1 : (c == 0) = false := by rw [beq_eq_false_iff_ne]; exact hc
      have h2 : ((c.toNat : Int) == 0) = false := by
        rw [beq_eq_false_iff_ne]; intro h; exact hc (UInt8.toNat.inj (by show c.toNat = 0; omega))
      rw [h1, h2]
  rw [e, e]
theorem pair_val (s : ByteArray) (k q : Nat) (hq : 2 * k = q) (h : q + 2 ≤ s.size) : valL (s.extract q (q + 2)).data.toList 0 = group s.data.toList k := by
  unfold group
  rw [hq, getD_at s q (by omega), getD_at s (q + 1) (by omega), Lib.extract_data, drop_cons s q (by omega), drop_cons s (q + 1) (by omega)]
  have e : q + 2 - q = 2 := by omega
  rw [e]
  simp [valL]
theorem run_go {z : List Bool} {f k n N : Nat} (h : n + runZ z (f + 1) (k + n) = N) (h8 : k + n < 8) (hz : zAt z (k + n) = true) : n + 1 + runZ z f (k + (n + 1)) = N := by
  rw [runZ, if_pos ⟨h8, hz⟩] at h
  rw [← h]
  have : k + (n + 1) = k + n + 1 := by omega
  rw [this]; omega
theorem run_end {z : List Bool} {f k n N : Nat} (h : n + runZ z f (k + n) = N) (h8 : ¬ (k + n < 8 ∧ zAt z (k + n) = true)) : n = N := by
  cases f with
  | zero => simpa [runZ] using h
  | succ f => rw [runZ, if_neg h8] at h; simpa using h
theorem run_le (z : List Bool) : ∀ f k, k ≤ 8 → runZ z f k ≤ 8 - k
  | 0, k, _ => by simp [runZ]
  | f + 1, k, h => by
    simp only [runZ]
    split
    · rename_i hc
      have := run_le z f (k + 1) (by omega)
      omega
    · omega
theorem best_go {z : List Bool} {f k : Nat} {a : Int} {m : Nat} {P : Int × Nat} (h : bestF z (f + 1) k a m = P) : (m < runZ z 8 k ∧ bestF z f (k + 1) k (runZ z 8 k) = P) ∨ (¬ m < runZ z 8 k ∧ bestF z f (k + 1) a m = P) := by
  rw [bestF] at h
  split at h
  · rename_i hc; exact .inl ⟨hc, h⟩
  · rename_i hc; exact .inr ⟨hc, h⟩

set_option maxRecDepth 100000 in
set_option maxHeartbeats 1000000 in
theorem ip6_show (s : ByteArray) (w : World) (hs : s.size = 16) (hT : TzT w) :
    Calls Tryz.prog 116 #[.agg #[], .string s] w (ShowPost w (showF .ip6 s.data.toList)) := by
  have HBA := Lib.hid ((Below.refl w.heap.size w).alloc (Nat.le_refl _) (.cells #[] 70))
  obtain ⟨z, hz⟩ : ∃ z, zs6 s.data.toList = z := ⟨_, rfl⟩
  obtain ⟨H, hH⟩ : ∃ H, hs6 s.data.toList = H := ⟨_, rfl⟩
  obtain ⟨BA, BM, hbest⟩ : ∃ BA BM, bestS z = (BA, BM) := ⟨_, _, rfl⟩
  obtain ⟨R, hR⟩ : ∃ R, outS H BA BM = R := ⟨_, rfl⟩
  have e0 : showF .ip6 s.data.toList = [R] := by rw [showF, ip6S, hz, hH, hbest]; exact congrArg (fun x => [x]) hR
  rw [e0]
  have HZ := Lib.hid hz; have HH := Lib.hid hH; have HBEST := Lib.hid hbest; have HR := Lib.hid hR
  have HSZ := Lib.hid hs
  have HT := Lib.hid hT
  have h16 : (s.size : Int) = 16 := by omega
  clear e0 hz hH hbest hR hT
  go_enter Tryz.func116, Tryz.ntmps116
  go_wp2_with fail
  go_loopg [5, 6, 7, 8] 9 (fun gas av mv kv _ wr => ∃ (k m : Nat) (a : Int), kv = .int .i64 k ∧ mv = .int .i64 m ∧ av = .int .i64 a ∧ k ≤ 8 ∧ k + gas = 9 ∧ m ≤ 8 ∧ 1 ≤ m ∧ -1 ≤ a ∧ a ≤ 8 ∧ (0 ≤ a ∨ m = 1) ∧ Hid (bestF z (8 - k) k a m = (BA, BM)) ∧ wr = w.alloc (.cells #[] 70))
  case atStart => exact ⟨0, 1, -1, rfl, rfl, rfl, by omega, by omega, by omega, by omega, by omega, by omega, .inr rfl, HBEST, rfl⟩
  case round =>
    obtain ⟨k, m, a, rfl, rfl, rfl, hk, hkg, hm, hm1, ha, ha8, ham1, HW, rfl⟩ := hrel
    have HAM := Lib.hid ham1; clear ham1
    obtain ⟨gk', hgk'⟩ : ∃ g, g = gk := ⟨_, rfl⟩
    rw [← hgk'] at hkg
    have HKG := Lib.hid hkg; clear hkg
    by_cases h8 : k < 8
    · obtain ⟨N, hN⟩ : ∃ N, runZ z 8 k = N := ⟨_, rfl⟩
      have hN8 : N ≤ 8 - k := by rw [← hN]; exact run_le z 8 k hk
      have hW2 := HW.out
      rw [show 8 - k = 7 - k + 1 by omega] at hW2
      have HB2 := Lib.hid (best_go hW2)
      clear hW2
      rw [hN] at HB2
      have HN : Hid (0 + runZ z 8 (k + 0) = N) := Lib.hid (by simpa using hN)
      clear hN
      have h8d : decide ((k : Int) < 8) = true := by simp; omega
      go_wp2_with fail
      go_loopg [8] 9 (fun gas nv wq => ∃ (n : Nat), nv = .int .i64 n ∧ n ≤ 8 - k ∧ n + gas = 9 ∧ Hid (n + runZ z (8 - n) (k + n) = N) ∧ wq = w.alloc (.cells #[] 70))
      case atStart => exact ⟨0, rfl, by omega, by omega, HN, rfl⟩
      case round =>
        obtain ⟨n, rfl, hn, hng, HV, rfl⟩ := hrel
        have HNG := Lib.hid hng; clear hng
        obtain ⟨p, HP⟩ : ∃ p, Hid (k + n = p) := ⟨_, Lib.hid rfl⟩
        by_cases hp8 : p < 8
        · obtain ⟨q, HQ⟩ : ∃ q, Hid (2 * p = q) := ⟨_, Lib.hid rfl⟩
          have hq16 : q + 1 < s.size := by have := HSZ.out; have := HQ.out; omega
          have hq15 : q < s.size := by omega
          have HZA := Lib.hid (zAt_eq s.data.toList p hp8)
          have HZ2 := Lib.hid (zero_at s p q hq16 HQ.out)
          have hpv := congrArg (Value.int .i64) (show (k : Int) + (n : Int) = (p : Int) by have := HP.out; omega)
          have hqv := congrArg (Value.int .i64) (show 2 * (p : Int) = (q : Int) by have := HQ.out; omega)
          have hqi : 0 ≤ (q : Int) := by omega
          have hqs : (q : Int) + 1 < (s.size : Int) := by omega
          obtain ⟨b1, hb1⟩ : ∃ b : Bool, ((s[q].toNat : Int) == 0) = b := ⟨_, rfl⟩
          obtain ⟨b2, hb2⟩ : ∃ b : Bool, ((s[q + 1].toNat : Int) == 0) = b := ⟨_, rfl⟩
          have HB12 : Hid (zAt z p = (b1 && b2)) := Lib.hid (by rw [← HZ.out, HZA.out, HZ2.out, hb1, hb2])
          have hlt8 : (p : Int) < 8 := by omega
          clear HZA HZ2
          cases b1 with
          | false =>
            have HE := Lib.hid (run_end HV.out (fun h => by rw [HP.out, HB12.out] at h; simp at h))
            have HBX := Lib.hid (by have h := HB2.out; rw [← HE.out] at h; exact h)
            by_cases hmn : m < n
            · have HBY : Hid (bestF z (8 - (k + 1)) (k + 1) (k : Int) n = (BA, BM)) := Lib.hid (by
                rcases HBX.out with ⟨_, h⟩ | ⟨h, _⟩
                · rw [show 8 - (k + 1) = 7 - k by omega]; exact h
                · exact absurd hmn h)
              clear HBX
              go_wp2_with fail
              have hkg := HKG.out
              go_roundg (gk' - 1)
              case rel => exact ⟨k + 1, n, k, by go_num, rfl, rfl, by omega, by omega, by omega, by omega, by omega, by omega, .inl (by omega), HBY, rfl⟩
              case measure => omega
            · have HBY : Hid (bestF z (8 - (k + 1)) (k + 1) a m = (BA, BM)) := Lib.hid (by
                rcases HBX.out with ⟨h, _⟩ | ⟨_, h⟩
                · exact absurd h hmn
                · rw [show 8 - (k + 1) = 7 - k by omega]; exact h)
              clear HBX
              go_wp2_with fail
              have hkg := HKG.out
              go_roundg (gk' - 1)
              case rel => exact ⟨k + 1, m, a, by go_num, rfl, rfl, by omega, by omega, by omega, by omega, by omega, by omega, HAM.out, HBY, rfl⟩
              case measure => omega
          | true =>
            cases b2 with
            | false =>
              have HE := Lib.hid (run_end HV.out (fun h => by rw [HP.out, HB12.out] at h; simp at h))
              have HBX := Lib.hid (by have h := HB2.out; rw [← HE.out] at h; exact h)
              by_cases hmn : m < n
              · have HBY : Hid (bestF z (8 - (k + 1)) (k + 1) (k : Int) n = (BA, BM)) := Lib.hid (by
                  rcases HBX.out with ⟨_, h⟩ | ⟨h, _⟩
                  · rw [show 8 - (k + 1) = 7 - k by omega]; exact h
                  · exact absurd hmn h)
                clear HBX
                go_wp2_with fail
                have hkg := HKG.out
                go_roundg (gk' - 1)
                case rel => exact ⟨k + 1, n, k, by go_num, rfl, rfl, by omega, by omega, by omega, by omega, by omega, by omega, .inl (by omega), HBY, rfl⟩
                case measure => omega
              · have HBY : Hid (bestF z (8 - (k + 1)) (k + 1) a m = (BA, BM)) := Lib.hid (by
                  rcases HBX.out with ⟨h, _⟩ | ⟨_, h⟩
                  · exact absurd h hmn
                  · rw [show 8 - (k + 1) = 7 - k by omega]; exact h)
                clear HBX
                go_wp2_with fail
                have hkg := HKG.out
                go_roundg (gk' - 1)
                case rel => exact ⟨k + 1, m, a, by go_num, rfl, rfl, by omega, by omega, by omega, by omega, by omega, by omega, HAM.out, HBY, rfl⟩
                case measure => omega
            | true =>
              have hn8 : n < 8 := by have := HP.out; omega
              have hpk : k + n < 8 := by have := HP.out; omega
              have hV := HV.out
              rw [show 8 - n = 7 - n + 1 by omega] at hV
              have HV2 := Lib.hid (run_go hV hpk (by rw [HP.out]; exact HB12.out))
              clear hV
              go_wp2_with fail
              have hng := HNG.out
              go_roundg (gk - 1)
              case rel => exact ⟨n + 1, by go_num, by omega, by omega, Lib.hid (by rw [show 8 - (n + 1) = 7 - n by omega]; exact HV2.out), rfl⟩
              case measure => omega
        · have hge : 8 ≤ (k : Int) + (n : Int) := by have := HP.out; omega
          have HE := Lib.hid (run_end HV.out (fun h => by rw [HP.out] at h; omega))
          have HBX := Lib.hid (by have h := HB2.out; rw [← HE.out] at h; exact h)
          by_cases hmn : m < n
          · have HBY : Hid (bestF z (8 - (k + 1)) (k + 1) (k : Int) n = (BA, BM)) := Lib.hid (by
              rcases HBX.out with ⟨_, h⟩ | ⟨h, _⟩
              · rw [show 8 - (k + 1) = 7 - k by omega]; exact h
              · exact absurd hmn h)
            clear HBX
            go_wp2_with fail
            have hkg := HKG.out
            go_roundg (gk' - 1)
            case rel => exact ⟨k + 1, n, k, by go_num, rfl, rfl, by omega, by omega, by omega, by omega, by omega, by omega, .inl (by omega), HBY, rfl⟩
            case measure => omega
          · have HBY : Hid (bestF z (8 - (k + 1)) (k + 1) a m = (BA, BM)) := Lib.hid (by
              rcases HBX.out with ⟨h, _⟩ | ⟨_, h⟩
              · exact absurd h hmn
              · rw [show 8 - (k + 1) = 7 - k by omega]; exact h)
            clear HBX
            go_wp2_with fail
            have hkg := HKG.out
            go_roundg (gk' - 1)
            case rel => exact ⟨k + 1, m, a, by go_num, rfl, rfl, by omega, by omega, by omega, by omega, by omega, by omega, HAM.out, HBY, rfl⟩
            case measure => omega
    · have hke : k = 8 := by omega
      have HEQ : Hid (a = BA ∧ m = BM) := Lib.hid (by
        have h := HW.out
        rw [hke] at h
        simpa [bestF] using h)
      subst hke
      obtain ⟨rfl, rfl⟩ := HEQ.out
      clear HW HEQ HBEST
      have hfb := Lib.hid (Lib.fresh_isBuilder 53 5 (w.alloc (.cells #[] 70)))
      have HBB := Lib.hid (HBA.out.alloc HBA.out.size (.cells #[.pointer none, .slice none 0 0] 53))
      have HA0 : Hid (Bld (w.heap.size + 1) (w.heap.size + 1) [] ((w.alloc (.cells #[] 70)).alloc (.cells #[.pointer none, .slice none 0 0] 53))) := Lib.hid (by have h := hfb.out; rw [World.size_alloc] at h; exact h)
      have HR0 : Hid ([] ++ outF H a m 9 0 = R) := Lib.hid HR.out
      have hRl : R.length ≤ 45 := by rw [← HR.out, ← HH.out]; exact outF_len _ (hs6_len _) _ _ 9 0
      clear hfb
      go_wp2_with fail
      go_loopg [10] 9 (fun gas kv wr => ∃ (k : Nat) (A : Bs), kv = .int .i64 k ∧ k ≤ 16 ∧ 9 ≤ k + gas ∧ 1 ≤ gas ∧ Hid (A ++ outF H a m gas k = R) ∧ Hid (Bld (w.heap.size + 1) (w.heap.size + 1) A wr) ∧ Hid (Below w.heap.size w wr))
      case atStart => exact ⟨0, [], rfl, by omega, by omega, by omega, HR0, HA0, HBB⟩
      case round =>
        clear HA0 HBB HR0
        obtain ⟨k, A, rfl, hk, hkg, hg1, HW, HA, HB⟩ := hrel
        obtain ⟨f, rfl⟩ : ∃ f, gk = f + 1 := ⟨gk - 1, by omega⟩
        have HKG := Lib.hid hkg; clear hkg hg1
        have hsz := HB.out.size
        have hsz1 : w.heap.size + 1 ≤ wr.heap.size := by
          have h := HA.out
          rcases h with h | h
          · have := h.lt; omega
          · have := h.lt; omega
        have hAl : A.length ≤ R.length := by rw [← HW.out]; simp
        by_cases h8 : k < 8
        · have hf1 : 1 ≤ f := by have := HKG.out; omega
          by_cases hka : (k : Int) = a
          · have HN : Hid ((A ++ [58, 58]) ++ outF H a m f (k + m) = R) := Lib.hid (by
              have h := HW.out
              rw [outF, if_neg (by omega), if_pos hka] at h
              rw [← h]; simp)
            have hb : ((k : Int) == a) = true := by rw [beq_iff_eq]; exact hka
            have CW := Lib.hid (ws (w.heap.size + 1) (w.heap.size + 1) A ⟨#[58, 58]⟩ wr HA.out (by have : (⟨#[58, 58]⟩ : ByteArray).size = 2 := rfl; omega) hsz1)
            clear hka
            go_wp2_with fail
            refine CW.out.mono ?_
            rintro e w2 ⟨rfl, hb2, hE2⟩
            have HB2 := Lib.hid (HB.out.trans (hE2.mono (Nat.le_succ _)))
            have HA2 : Hid (Bld (w.heap.size + 1) (w.heap.size + 1) (A ++ [58, 58]) w2) := Lib.hid hb2
            clear hE2 hb2
            go_wp2_with fail
            have hkg := HKG.out
            go_roundg f
            case rel => exact ⟨k + m, _, by first | rfl | go_num | (congr 1; omega), by omega, by omega, by omega, HN, HA2, HB2⟩
            case measure => omega
          · have hb : ((k : Int) == a) = false := by rw [beq_eq_false_iff_ne]; exact hka
            obtain ⟨q, HQ⟩ : ∃ q, Hid (2 * k = q) := ⟨_, Lib.hid rfl⟩
            have hq16 : q + 2 ≤ s.size := by have := HSZ.out; have := HQ.out; omega
            obtain ⟨x, HX⟩ : ∃ x, Hid (s.extract q (q + 2) = x) := ⟨_, Lib.hid rfl⟩
            have hxs : x.size = 2 := by rw [← HX.out, ByteArray.size_extract]; omega
            obtain ⟨g, HG⟩ : ∃ g, Hid (group s.data.toList k = g) := ⟨_, Lib.hid rfl⟩
            have CS := Lib.hid (fun w => small_any x w (by omega))
            have hval : valL x.data.toList 0 = g := by rw [← HX.out, ← HG.out]; exact pair_val s k q HQ.out hq16
            rw [hval] at CS
            have hg : g < 65536 := by rw [← hval]; exact valL_two (by rw [size_len, hxs]; exact Nat.le_refl 2)
            obtain ⟨D, hD⟩ : ∃ D : ByteArray, (⟨(hexN g).toArray⟩ : ByteArray) = D := ⟨_, rfl⟩
            have hDl : D.size ≤ 4 := by rw [← hD, mk_size]; exact (hexN_len g).2
            have hDd : D.data.toList = hexN g := by rw [← hD]
            have HGET : Hid (H.getD k [] = D.data.toList) := Lib.hid (by rw [hDd, ← HG.out, ← HH.out]; exact hAt_eq _ k h8)
            have HN : Hid ((A ++ (if 0 < k ∧ (k : Int) ≠ a + m then [58] else if 0 < k ∧ a < 0 then [58] else [])) ++ D.data.toList ++ outF H a m f (k + 1) = R) := Lib.hid (by
              have h := HW.out
              rw [outF, if_neg (by omega), if_neg hka, HGET.out] at h
              rw [← h]; simp)
            have CF := Lib.hid (fun wx (h : TzT wx) => fmt16_any g hg wx h)
            rw [hD] at CF
            have hqv := congrArg (Value.int .i64) (show 2 * (k : Int) = (q : Int) by have := HQ.out; omega)
            have hq0 : 0 ≤ (q : Int) := by omega
            have hqs : (q : Int) + 2 ≤ (s.size : Int) := by omega
            have hx := congrArg Value.string HX.out
            clear hD hDd hval
            by_cases h0 : 0 < k
            · by_cases ham : (k : Int) = a + m
              · have hb2 : ((k : Int) == a + (m : Int)) = true := by rw [beq_iff_eq]; exact ham
                by_cases han : a < 0
                · exfalso; have := HAM.out; omega
                · rw [if_neg (by intro h; exact h.2 ham), if_neg (by intro h; exact han h.2), List.append_nil] at HN
                  clear ham
                  go_wp2_with fail
                  refine (CS.out _).mono ?_
                  rintro e w3 ⟨rfl, rfl⟩
                  go_wp2_with fail
                  refine (CF.out _ (tz_below HT.out HB.out)).mono ?_
                  rintro e w4 ⟨rfl, hE4⟩
                  have HA4 := Lib.hid (bld_below HA.out hE4)
                  have HB4 := Lib.hid (HB.out.trans (hE4.mono HB.out.size))
                  have hsz4 : w.heap.size + 1 ≤ w4.heap.size := Nat.le_trans hsz1 hE4.size
                  clear hE4
                  have CW := Lib.hid (ws (w.heap.size + 1) (w.heap.size + 1) A D w4 HA4.out (by omega) hsz4)
                  go_wp2_with fail
                  refine CW.out.mono ?_
                  rintro e w5 ⟨rfl, hb5, hE5⟩
                  have HB5 := Lib.hid (HB4.out.trans (hE5.mono (Nat.le_succ _)))
                  have HA5 := Lib.hid hb5
                  clear hE5 hb5
                  go_wp2_with fail
                  have hkg := HKG.out
                  go_roundg f
                  case rel => exact ⟨k + 1, _, by go_num, by omega, by omega, by omega, HN, HA5, HB5⟩
                  case measure => omega
              · have hb2 : ((k : Int) == a + (m : Int)) = false := by rw [beq_eq_false_iff_ne]; exact ham
                rw [if_pos ⟨h0, ham⟩] at HN
                clear ham
                have CC := Lib.hid (wbi (w.heap.size + 1) (w.heap.size + 1) A 58 58 rfl wr HA.out (by omega) hsz1)
                go_wp2_with fail
                refine CC.out.mono ?_
                rintro e w1 ⟨rfl, hb1, hE1⟩
                have HBs := Lib.hid (HB.out.trans (hE1.mono (Nat.le_succ _)))
                have HAs := Lib.hid hb1
                have hszs : w.heap.size + 1 ≤ w1.heap.size := Nat.le_trans hsz1 hE1.size
                clear hE1 hb1
                go_wp2_with fail
                refine (CS.out _).mono ?_
                rintro e w3 ⟨rfl, rfl⟩
                go_wp2_with fail
                refine (CF.out _ (tz_below HT.out HBs.out)).mono ?_
                rintro e w4 ⟨rfl, hE4⟩
                have HA4 := Lib.hid (bld_below HAs.out hE4)
                have HB4 := Lib.hid (HBs.out.trans (hE4.mono HBs.out.size))
                have hsz4 : w.heap.size + 1 ≤ w4.heap.size := Nat.le_trans hszs hE4.size
                clear hE4
                have CW := Lib.hid (ws (w.heap.size + 1) (w.heap.size + 1) (A ++ [58]) D w4 HA4.out (by rw [List.length_append, List.length_singleton]; omega) hsz4)
                go_wp2_with fail
                refine CW.out.mono ?_
                rintro e w5 ⟨rfl, hb5, hE5⟩
                have HB5 := Lib.hid (HB4.out.trans (hE5.mono (Nat.le_succ _)))
                have HA5 := Lib.hid hb5
                clear hE5 hb5
                go_wp2_with fail
                have hkg := HKG.out
                go_roundg f
                case rel => exact ⟨k + 1, _, by go_num, by omega, by omega, by omega, HN, HA5, HB5⟩
                case measure => omega
            · rw [if_neg (by intro h; exact h0 h.1), if_neg (by intro h; exact h0 h.1), List.append_nil] at HN
              go_wp2_with fail
              refine (CS.out _).mono ?_
              rintro e w3 ⟨rfl, rfl⟩
              go_wp2_with fail
              refine (CF.out _ (tz_below HT.out HB.out)).mono ?_
              rintro e w4 ⟨rfl, hE4⟩
              have HA4 := Lib.hid (bld_below HA.out hE4)
              have HB4 := Lib.hid (HB.out.trans (hE4.mono HB.out.size))
              have hsz4 : w.heap.size + 1 ≤ w4.heap.size := Nat.le_trans hsz1 hE4.size
              clear hE4
              have CW := Lib.hid (ws (w.heap.size + 1) (w.heap.size + 1) A D w4 HA4.out (by omega) hsz4)
              go_wp2_with fail
              refine CW.out.mono ?_
              rintro e w5 ⟨rfl, hb5, hE5⟩
              have HB5 := Lib.hid (HB4.out.trans (hE5.mono (Nat.le_succ _)))
              have HA5 := Lib.hid hb5
              clear hE5 hb5
              go_wp2_with fail
              have hkg := HKG.out
              go_roundg f
              case rel => exact ⟨k + 1, _, by go_num, by omega, by omega, by omega, HN, HA5, HB5⟩
              case measure => omega
        · have HE : Hid (A = R) := Lib.hid (by
            have h := HW.out
            rw [outF, if_pos (by omega), List.append_nil] at h; exact h)
          rw [HE.out] at HA
          go_wp2_with fail
          refine (Tryz.Builder_String_any _ _ R _ HA.out hsz1).mono ?_
          rintro e w2 ⟨rfl, hE2⟩
          have HB2 := Lib.hid (HB.out.trans (hE2.mono (Nat.le_succ _)))
          clear hE2
          go_wp2_with fail
          go_ret
          exact show_one HB2.out rfl _
end Go.Proofs.YtjejmgdpjfdhjaaGreatDoor.ip6
