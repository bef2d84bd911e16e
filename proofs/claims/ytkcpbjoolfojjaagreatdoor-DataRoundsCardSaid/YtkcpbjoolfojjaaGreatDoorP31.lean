/- data.ip6's 'show': walk. gazetteerref1.show6: walk. data.ip4's 'show': walk. data's texts, kinds, b64: 'show': walks. gazetteerref1.showField: walks, letter by letter. strings.Join with a blank: walk. data.Names: walk. gazetteerref1.NamesIn: walk. Messages in plain words: records, questions, which are right. -/
import Derived.Test.YtkcpbjoolfojjaaGreatDoorP30
import Derived.Test.YtkcpbjoolfojjaaGreatDoorP29
import Derived.Test.YtkcpbjoolfojjaaGreatDoorP15
import Derived.Test.YtkcpbjoolfojjaaGreatDoorP24
import Derived.Test.YtkcpbjoolfojjaaGreatDoorP26
import Derived.Test.YtkcpbjoolfojjaaGreatDoorP25
import Derived.Test.YtkcpbjoolfojjaaGreatDoorP17
import Derived.Test.YtkcpbjoolfojjaaGreatDoorP11
import Derived.Outline
namespace Go.Proofs.YtkcpbjoolfojjaaGreatDoor.ip6
open Go.RowKit Go.Proofs.YtkcpbjoolfojjaaGreatDoor.kit Go.Proofs.YtkcpbjoolfojjaaGreatDoor.nspec Go.Proofs.YtkcpbjoolfojjaaGreatDoor.bits Go.Proofs.YtkcpbjoolfojjaaGreatDoor.bld Go.Proofs.YtkcpbjoolfojjaaGreatDoor.dshow Go.Proofs.YtkcpbjoolfojjaaGreatDoor.rsplit Go.Proofs.YtkcpbjoolfojjaaGreatDoor.dshowA Go.Proofs.YtkcpbjoolfojjaaGreatDoor.dshowB Go.Proofs.YtkcpbjoolfojjaaGreatDoor.fld Go.Proofs.YtkcpbjoolfojjaaGreatDoor.small Go.Proofs.YtkcpbjoolfojjaaGreatDoor.val Go.Proofs.YtkcpbjoolfojjaaGreatDoor.fmt16
set_option linter.unusedVariables false

theorem zAt_eq (d : Bs) (p : Nat) (h : p < 8) : zAt (zs6 d) p = zeroG d p := by
  unfold zAt zs6
  rw [List.getD, List.getElem?_map, List.getElem?_range h]; rfl
theorem hAt_eq (d : Bs) (p : Nat) (h : p < 8) : (hs6 d).getD p [] = hexN (group d p) := by
  unfold hs6
  rw [List.getD, List.getElem?_map, List.getElem?_range h]; rfl
theorem zero_at (s : ByteArray) (p q : Nat) (h : q + 1 < s.size) (hq : 2 * p = q) : zeroG s.data.toList p = (((s[q]'(by omega)).toNat : Int) == 0 && ((s[q + 1]'h).toNat : Int) == 0) := by
  unfold zeroG
  rw [hq, getD_at s q (by omega), getD_at s (q + 1) h]
  have e : ∀ c : UInt8, (c == 0) = ((c.toNat : Int) == 0) := by
    intro c
    by_cases hc : c = 0
    · subst hc; rfl
    · have h1 : (c == 0) = false := by rw [beq_eq_false_iff_ne]; exact hc
      have h2 : ((c.toNat : Int) == 0) = false := by
        rw [beq_eq_false_iff_ne]; intro h; exact hc (UInt8.toNat.inj (by show c.toNat = 0; omega))
      rw [h1, h2]
  rw [e, e]
theorem pair_val (s : ByteArray) (k q : Nat) (hq : 2 * k = q) (h : q + 2 ≤ s.size) : valL (s.extract q (q + 2)).data.toList 0 = group s.data.toList k := by
  unfold group
  rw [hq, getD_at s q (by omega), getD_at s (q + 1) (by omega), Lib.extract_data, drop_cons s q (by omega), drop_cons s (q + 1) (by omega)]
  have e : q + 2 - q = 2 := by omega
  rw [e]
  simp [valL]
theorem run_go {z : List Bool} {f k n N : Nat} (h : n + runZ z (f + 1) (k + n) = N) (h8 : k + n < 8) (hz : zAt z (k + n) = true) : n + 1 + runZ z f (k + (n + 1)) = N := by
  rw [runZ, if_pos ⟨h8, hz⟩] at h
  rw [← h]
  have : k + (n + 1) = k + n + 1 := by omega
  rw [this]; omega
theorem run_end {z : List Bool} {f k n N : Nat} (h : n + runZ z f (k + n) = N) (h8 : ¬ (k + n < 8 ∧ zAt z (k + n) = true)) : n = N := by
  cases f with
  | zero => simpa [runZ] using h
  | succ f => rw [runZ, if_neg h8] at h; simpa using h
theorem run_le (z : List Bool) : ∀ f k, k ≤ 8 → runZ z f k ≤ 8 - k
  | 0, k, _ => by simp [runZ]
  | f + 1, k, h => by
    simp only [runZ]
    split
    · rename_i hc
      have := run_le z f (k + 1) (by omega)
      omega
    · omega
theorem best_go {z : List Bool} {f k : Nat} {a : Int} {m : Nat} {P : Int × Nat} (h : bestF z (f + 1) k a m = P) : (m < runZ z 8 k ∧ bestF z f (k + 1) k (runZ z 8 k) = P) ∨ (¬ m < runZ z 8 k ∧ bestF z f (k + 1) a m = P) := by
  rw [bestF] at h
  split at h
  · rename_i hc; exact .inl ⟨hc, h⟩
  · rename_i hc; exact .inr ⟨hc, h⟩

set_option maxRecDepth 100000 in
set_option maxHeartbeats 1000000 in
theorem ip6_show (s : ByteArray) (w : World) (hs : s.size = 16) (hT : TzT w) :
    Calls Tryz.prog 160 #[.agg #[], .string s] w (ShowPost w (showF .ip6 s.data.toList)) := by
  have HBA := Lib.hid ((Below.refl w.heap.size w).alloc (Nat.le_refl _) (.cells #[] 87))
  obtain ⟨z, hz⟩ : ∃ z, zs6 s.data.toList = z := ⟨_, rfl⟩
  obtain ⟨H, hH⟩ : ∃ H, hs6 s.data.toList = H := ⟨_, rfl⟩
  obtain ⟨BA, BM, hbest⟩ : ∃ BA BM, bestS z = (BA, BM) := ⟨_, _, rfl⟩
  obtain ⟨R, hR⟩ : ∃ R, outS H BA BM = R := ⟨_, rfl⟩
  have e0 : showF .ip6 s.data.toList = [R] := by rw [showF, ip6S, hz, hH, hbest]; exact congrArg (fun x => [x]) hR
  rw [e0]
  have HZ := Lib.hid hz; have HH := Lib.hid hH; have HBEST := Lib.hid hbest; have HR := Lib.hid hR
  have HSZ := Lib.hid hs
  have HT := Lib.hid hT
  have h16 : (s.size : Int) = 16 := by omega
  clear e0 hz hH hbest hR hT
  go_enter Tryz.func160, Tryz.ntmps160
  go_wp2_with fail
  go_loopg [5, 6, 7, 8] 9 (fun gas av mv kv _ wr => ∃ (k m : Nat) (a : Int), kv = .int .i64 k ∧ mv = .int .i64 m ∧ av = .int .i64 a ∧ k ≤ 8 ∧ k + gas = 9 ∧ m ≤ 8 ∧ 1 ≤ m ∧ -1 ≤ a ∧ a ≤ 8 ∧ (0 ≤ a ∨ m = 1) ∧ Hid (bestF z (8 - k) k a m = (BA, BM)) ∧ wr = w.alloc (.cells #[] 87))
  case atStart => exact ⟨0, 1, -1, rfl, rfl, rfl, by omega, by omega, by omega, by omega, by omega, by omega, .inr rfl, HBEST, rfl⟩
  case round =>
    obtain ⟨k, m, a, rfl, rfl, rfl, hk, hkg, hm, hm1, ha, ha8, ham1, HW, rfl⟩ := hrel
    have HAM := Lib.hid ham1; clear ham1
    obtain ⟨gk', hgk'⟩ : ∃ g, g = gk := ⟨_, rfl⟩
    rw [← hgk'] at hkg
    have HKG := Lib.hid hkg; clear hkg
    by_cases h8 : k < 8
    · obtain ⟨N, hN⟩ : ∃ N, runZ z 8 k = N := ⟨_, rfl⟩
      have hN8 : N ≤ 8 - k := by rw [← hN]; exact run_le z 8 k hk
      have hW2 := HW.out
      rw [show 8 - k = 7 - k + 1 by omega] at hW2
      have HB2 := Lib.hid (best_go hW2)
      clear hW2
      rw [hN] at HB2
      have HN : Hid (0 + runZ z 8 (k + 0) = N) := Lib.hid (by simpa using hN)
      clear hN
      have h8d : decide ((k : Int) < 8) = true := by simp; omega
      go_wp2_with fail
      go_loopg [8] 9 (fun gas nv wq => ∃ (n : Nat), nv = .int .i64 n ∧ n ≤ 8 - k ∧ n + gas = 9 ∧ Hid (n + runZ z (8 - n) (k + n) = N) ∧ wq = w.alloc (.cells #[] 87))
      case atStart => exact ⟨0, rfl, by omega, by omega, HN, rfl⟩
      case round =>
        obtain ⟨n, rfl, hn, hng, HV, rfl⟩ := hrel
        have HNG := Lib.hid hng; clear hng
        obtain ⟨p, HP⟩ : ∃ p, Hid (k + n = p) := ⟨_, Lib.hid rfl⟩
        by_cases hp8 : p < 8
        · obtain ⟨q, HQ⟩ : ∃ q, Hid (2 * p = q) := ⟨_, Lib.hid rfl⟩
          have hq16 : q + 1 < s.size := by have := HSZ.out; have := HQ.out; omega
          have hq15 : q < s.size := by omega
          have HZA := Lib.hid (zAt_eq s.data.toList p hp8)
          have HZ2 := Lib.hid (zero_at s p q hq16 HQ.out)
          have hpv := congrArg (Value.int .i64) (show (k : Int) + (n : Int) = (p : Int) by have := HP.out; omega)
          have hqv := congrArg (Value.int .i64) (show 2 * (p : Int) = (q : Int) by have := HQ.out; omega)
          have hqi : 0 ≤ (q : Int) := by omega
          have hqs : (q : Int) + 1 < (s.size : Int) := by omega
          obtain ⟨b1, hb1⟩ : ∃ b : Bool, ((s[q].toNat : Int) == 0) = b := ⟨_, rfl⟩
          obtain ⟨b2, hb2⟩ : ∃ b : Bool, ((s[q + 1].toNat : Int) == 0) = b := ⟨_, rfl⟩
          have HB12 : Hid (zAt z p = (b1 && b2)) := Lib.hid (by rw [← HZ.out, HZA.out, HZ2.out, hb1, hb2])
          have hlt8 : (p : Int) < 8 := by omega
          clear HZA HZ2
          cases b1 with
          | false =>
            have HE := Lib.hid (run_end HV.out (fun h => by rw [HP.out, HB12.out] at h; simp at h))
            have HBX := Lib.hid (by have h := HB2.out; rw [← HE.out] at h; exact h)
            by_cases hmn : m < n
            · have HBY : Hid (bestF z (8 - (k + 1)) (k + 1) (k : Int) n = (BA, BM)) := Lib.hid (by
                rcases HBX.out with ⟨_, h⟩ | ⟨h, _⟩
                · rw [show 8 - (k + 1) = 7 - k by omega]; exact h
                · exact absurd hmn h)
              clear HBX
              go_wp2_with fail
              have hkg := HKG.out
              go_roundg (gk' - 1)
              case rel => exact ⟨k + 1, n, k, by go_num, rfl, rfl, by omega, by omega, by omega, by omega, by omega, by omega, .inl (by omega), HBY, rfl⟩
              case measure => omega
            · have HBY : Hid (bestF z (8 - (k + 1)) (k + 1) a m = (BA, BM)) := Lib.hid (by
                rcases HBX.out with ⟨h, _⟩ | ⟨_, h⟩
                · exact absurd h hmn
                · rw [show 8 - (k + 1) = 7 - k by omega]; exact h)
              clear HBX
              go_wp2_with fail
              have hkg := HKG.out
              go_roundg (gk' - 1)
              case rel => exact ⟨k + 1, m, a, by go_num, rfl, rfl, by omega, by omega, by omega, by omega, by omega, by omega, HAM.out, HBY, rfl⟩
              case measure => omega
          | true =>
            cases b2 with
            | false =>
              have HE := Lib.hid (run_end HV.out (fun h => by rw [HP.out, HB12.out] at h; simp at h))
              have HBX := Lib.hid (by have h := HB2.out; rw [← HE.out] at h; exact h)
              by_cases hmn : m < n
              · have HBY : Hid (bestF z (8 - (k + 1)) (k + 1) (k : Int) n = (BA, BM)) := Lib.hid (by
                  rcases HBX.out with ⟨_, h⟩ | ⟨h, _⟩
                  · rw [show 8 - (k + 1) = 7 - k by omega]; exact h
                  · exact absurd hmn h)
                clear HBX
                go_wp2_with fail
                have hkg := HKG.out
                go_roundg (gk' - 1)
                case rel => exact ⟨k + 1, n, k, by go_num, rfl, rfl, by omega, by omega, by omega, by omega, by omega, by omega, .inl (by omega), HBY, rfl⟩
                case measure => omega
              · have HBY : Hid (bestF z (8 - (k + 1)) (k + 1) a m = (BA, BM)) := Lib.hid (by
                  rcases HBX.out with ⟨h, _⟩ | ⟨_, h⟩
                  · exact absurd h hmn
                  · rw [show 8 - (k + 1) = 7 - k by omega]; exact h)
                clear HBX
                go_wp2_with fail
                have hkg := HKG.out
                go_roundg (gk' - 1)
                case rel => exact ⟨k + 1, m, a, by go_num, rfl, rfl, by omega, by omega, by omega, by omega, by omega, by omega, HAM.out, HBY, rfl⟩
                case measure => omega
            | true =>
              have hn8 : n < 8 := by have := HP.out; omega
              have hpk : k + n < 8 := by have := HP.out; omega
              have hV := HV.out
              rw [show 8 - n = 7 - n + 1 by omega] at hV
              have HV2 := Lib.hid (run_go hV hpk (by rw [HP.out]; exact HB12.out))
              clear hV
              go_wp2_with fail
              have hng := HNG.out
              go_roundg (gk - 1)
              case rel => exact ⟨n + 1, by go_num, by omega, by omega, Lib.hid (by rw [show 8 - (n + 1) = 7 - n by omega]; exact HV2.out), rfl⟩
              case measure => omega
        · have hge : 8 ≤ (k : Int) + (n : Int) := by have := HP.out; omega
          have HE := Lib.hid (run_end HV.out (fun h => by rw [HP.out] at h; omega))
          have HBX := Lib.hid (by have h := HB2.out; rw [← HE.out] at h; exact h)
          by_cases hmn : m < n
          · have HBY : Hid (bestF z (8 - (k + 1)) (k + 1) (k : Int) n = (BA, BM)) := Lib.hid (by
              rcases HBX.out with ⟨_, h⟩ | ⟨h, _⟩
              · rw [show 8 - (k + 1) = 7 - k by omega]; exact h
              · exact absurd hmn h)
            clear HBX
            go_wp2_with fail
            have hkg := HKG.out
            go_roundg (gk' - 1)
            case rel => exact ⟨k + 1, n, k, by go_num, rfl, rfl, by omega, by omega, by omega, by omega, by omega, by omega, .inl (by omega), HBY, rfl⟩
            case measure => omega
          · have HBY : Hid (bestF z (8 - (k + 1)) (k + 1) a m = (BA, BM)) := Lib.hid (by
              rcases HBX.out with ⟨h, _⟩ | ⟨_, h⟩
              · exact absurd h hmn
              · rw [show 8 - (k + 1) = 7 - k by omega]; exact h)
            clear HBX
            go_wp2_with fail
            have hkg := HKG.out
            go_roundg (gk' - 1)
            case rel => exact ⟨k + 1, m, a, by go_num, rfl, rfl, by omega, by omega, by omega, by omega, by omega, by omega, HAM.out, HBY, rfl⟩
            case measure => omega
    · have hke : k = 8 := by omega
      have HEQ : Hid (a = BA ∧ m = BM) := Lib.hid (by
        have h := HW.out
        rw [hke] at h
        simpa [bestF] using h)
      subst hke
      obtain ⟨rfl, rfl⟩ := HEQ.out
      clear HW HEQ HBEST
      have hfb := Lib.hid (Lib.fresh_isBuilder 52 5 (w.alloc (.cells #[] 87)))
      have HBB := Lib.hid (HBA.out.alloc HBA.out.size (.cells #[.pointer none, .slice none 0 0] 52))
      have HA0 : Hid (Bld (w.heap.size + 1) (w.heap.size + 1) [] ((w.alloc (.cells #[] 87)).alloc (.cells #[.pointer none, .slice none 0 0] 52))) := Lib.hid (by have h := hfb.out; rw [World.size_alloc] at h; exact h)
      have HR0 : Hid ([] ++ outF H a m 9 0 = R) := Lib.hid HR.out
      have hRl : R.length ≤ 45 := by rw [← HR.out, ← HH.out]; exact outF_len _ (hs6_len _) _ _ 9 0
      clear hfb
      go_wp2_with fail
      go_loopg [10] 9 (fun gas kv wr => ∃ (k : Nat) (A : Bs), kv = .int .i64 k ∧ k ≤ 16 ∧ 9 ≤ k + gas ∧ 1 ≤ gas ∧ Hid (A ++ outF H a m gas k = R) ∧ Hid (Bld (w.heap.size + 1) (w.heap.size + 1) A wr) ∧ Hid (Below w.heap.size w wr))
      case atStart => exact ⟨0, [], rfl, by omega, by omega, by omega, HR0, HA0, HBB⟩
      case round =>
        clear HA0 HBB HR0
        obtain ⟨k, A, rfl, hk, hkg, hg1, HW, HA, HB⟩ := hrel
        obtain ⟨f, rfl⟩ : ∃ f, gk = f + 1 := ⟨gk - 1, by omega⟩
        have HKG := Lib.hid hkg; clear hkg hg1
        have hsz := HB.out.size
        have hsz1 : w.heap.size + 1 ≤ wr.heap.size := by
          have h := HA.out
          rcases h with h | h
          · have := h.lt; omega
          · have := h.lt; omega
        have hAl : A.length ≤ R.length := by rw [← HW.out]; simp
        by_cases h8 : k < 8
        · have hf1 : 1 ≤ f := by have := HKG.out; omega
          by_cases hka : (k : Int) = a
          · have HN : Hid ((A ++ [58, 58]) ++ outF H a m f (k + m) = R) := Lib.hid (by
              have h := HW.out
              rw [outF, if_neg (by omega), if_pos hka] at h
              rw [← h]; simp)
            have hb : ((k : Int) == a) = true := by rw [beq_iff_eq]; exact hka
            have CW := Lib.hid (ws (w.heap.size + 1) (w.heap.size + 1) A ⟨#[58, 58]⟩ wr HA.out (by have : (⟨#[58, 58]⟩ : ByteArray).size = 2 := rfl; omega) hsz1)
            clear hka
            go_wp2_with fail
            refine CW.out.mono ?_
            rintro e w2 ⟨rfl, hb2, hE2⟩
            have HB2 := Lib.hid (HB.out.trans (hE2.mono (Nat.le_succ _)))
            have HA2 : Hid (Bld (w.heap.size + 1) (w.heap.size + 1) (A ++ [58, 58]) w2) := Lib.hid hb2
            clear hE2 hb2
            go_wp2_with fail
            have hkg := HKG.out
            go_roundg f
            case rel => exact ⟨k + m, _, by first | rfl | go_num | (congr 1; omega), by omega, by omega, by omega, HN, HA2, HB2⟩
            case measure => omega
          · have hb : ((k : Int) == a) = false := by rw [beq_eq_false_iff_ne]; exact hka
            obtain ⟨q, HQ⟩ : ∃ q, Hid (2 * k = q) := ⟨_, Lib.hid rfl⟩
            have hq16 : q + 2 ≤ s.size := by have := HSZ.out; have := HQ.out; omega
            obtain ⟨x, HX⟩ : ∃ x, Hid (s.extract q (q + 2) = x) := ⟨_, Lib.hid rfl⟩
            have hxs : x.size = 2 := by rw [← HX.out, ByteArray.size_extract]; omega
            obtain ⟨g, HG⟩ : ∃ g, Hid (group s.data.toList k = g) := ⟨_, Lib.hid rfl⟩
            have CS := Lib.hid (fun w => small_any x w (by omega))
            have hval : valL x.data.toList 0 = g := by rw [← HX.out, ← HG.out]; exact pair_val s k q HQ.out hq16
            rw [hval] at CS
            have hg : g < 65536 := by rw [← hval]; exact valL_two (by rw [size_len, hxs]; exact Nat.le_refl 2)
            obtain ⟨D, hD⟩ : ∃ D : ByteArray, (⟨(hexN g).toArray⟩ : ByteArray) = D := ⟨_, rfl⟩
            have hDl : D.size ≤ 4 := by rw [← hD, mk_size]; exact (hexN_len g).2
            have hDd : D.data.toList = hexN g := by rw [← hD]
            have HGET : Hid (H.getD k [] = D.data.toList) := Lib.hid (by rw [hDd, ← HG.out, ← HH.out]; exact hAt_eq _ k h8)
            have HN : Hid ((A ++ (if 0 < k ∧ (k : Int) ≠ a + m then [58] else if 0 < k ∧ a < 0 then [58] else [])) ++ D.data.toList ++ outF H a m f (k + 1) = R) := Lib.hid (by
              have h := HW.out
              rw [outF, if_neg (by omega), if_neg hka, HGET.out] at h
              rw [← h]; simp)
            have CF := Lib.hid (fun wx (h : TzT wx) => fmt16_any g hg wx h)
            rw [hD] at CF
            have hqv := congrArg (Value.int .i64) (show 2 * (k : Int) = (q : Int) by have := HQ.out; omega)
            have hq0 : 0 ≤ (q : Int) := by omega
            have hqs : (q : Int) + 2 ≤ (s.size : Int) := by omega
            have hx := congrArg Value.string HX.out
            clear hD hDd hval
            by_cases h0 : 0 < k
            · by_cases ham : (k : Int) = a + m
              · have hb2 : ((k : Int) == a + (m : Int)) = true := by rw [beq_iff_eq]; exact ham
                by_cases han : a < 0
                · exfalso; have := HAM.out; omega
                · rw [if_neg (by intro h; exact h.2 ham), if_neg (by intro h; exact han h.2), List.append_nil] at HN
                  clear ham
                  go_wp2_with fail
                  refine (CS.out _).mono ?_
                  rintro e w3 ⟨rfl, rfl⟩
                  go_wp2_with fail
                  refine (CF.out _ (tz_below HT.out HB.out)).mono ?_
                  rintro e w4 ⟨rfl, hE4⟩
                  have HA4 := Lib.hid (bld_below HA.out hE4)
                  have HB4 := Lib.hid (HB.out.trans (hE4.mono HB.out.size))
                  have hsz4 : w.heap.size + 1 ≤ w4.heap.size := Nat.le_trans hsz1 hE4.size
                  clear hE4
                  have CW := Lib.hid (ws (w.heap.size + 1) (w.heap.size + 1) A D w4 HA4.out (by omega) hsz4)
                  go_wp2_with fail
                  refine CW.out.mono ?_
                  rintro e w5 ⟨rfl, hb5, hE5⟩
                  have HB5 := Lib.hid (HB4.out.trans (hE5.mono (Nat.le_succ _)))
                  have HA5 := Lib.hid hb5
                  clear hE5 hb5
                  go_wp2_with fail
                  have hkg := HKG.out
                  go_roundg f
                  case rel => exact ⟨k + 1, _, by go_num, by omega, by omega, by omega, HN, HA5, HB5⟩
                  case measure => omega
              · have hb2 : ((k : Int) == a + (m : Int)) = false := by rw [beq_eq_false_iff_ne]; exact ham
                rw [if_pos ⟨h0, ham⟩] at HN
                clear ham
                have CC := Lib.hid (wbi (w.heap.size + 1) (w.heap.size + 1) A 58 58 rfl wr HA.out (by omega) hsz1)
                go_wp2_with fail
                refine CC.out.mono ?_
                rintro e w1 ⟨rfl, hb1, hE1⟩
                have HBs := Lib.hid (HB.out.trans (hE1.mono (Nat.le_succ _)))
                have HAs := Lib.hid hb1
                have hszs : w.heap.size + 1 ≤ w1.heap.size := Nat.le_trans hsz1 hE1.size
                clear hE1 hb1
                go_wp2_with fail
                refine (CS.out _).mono ?_
                rintro e w3 ⟨rfl, rfl⟩
                go_wp2_with fail
                refine (CF.out _ (tz_below HT.out HBs.out)).mono ?_
                rintro e w4 ⟨rfl, hE4⟩
                have HA4 := Lib.hid (bld_below HAs.out hE4)
                have HB4 := Lib.hid (HBs.out.trans (hE4.mono HBs.out.size))
                have hsz4 : w.heap.size + 1 ≤ w4.heap.size := Nat.le_trans hszs hE4.size
                clear hE4
                have CW := Lib.hid (ws (w.heap.size + 1) (w.heap.size + 1) (A ++ [58]) D w4 HA4.out (by rw [List.length_append, List.length_singleton]; omega) hsz4)
                go_wp2_with fail
                refine CW.out.mono ?_
                rintro e w5 ⟨rfl, hb5, hE5⟩
                have HB5 := Lib.hid (HB4.out.trans (hE5.mono (Nat.le_succ _)))
                have HA5 := Lib.hid hb5
                clear hE5 hb5
                go_wp2_with fail
                have hkg := HKG.out
                go_roundg f
                case rel => exact ⟨k + 1, _, by go_num, by omega, by omega, by omega, HN, HA5, HB5⟩
                case measure => omega
            · rw [if_neg (by intro h; exact h0 h.1), if_neg (by intro h; exact h0 h.1), List.append_nil] at HN
              go_wp2_with fail
              refine (CS.out _).mono ?_
              rintro e w3 ⟨rfl, rfl⟩
              go_wp2_with fail
              refine (CF.out _ (tz_below HT.out HB.out)).mono ?_
              rintro e w4 ⟨rfl, hE4⟩
              have HA4 := Lib.hid (bld_below HA.out hE4)
              have HB4 := Lib.hid (HB.out.trans (hE4.mono HB.out.size))
              have hsz4 : w.heap.size + 1 ≤ w4.heap.size := Nat.le_trans hsz1 hE4.size
              clear hE4
              have CW := Lib.hid (ws (w.heap.size + 1) (w.heap.size + 1) A D w4 HA4.out (by omega) hsz4)
              go_wp2_with fail
              refine CW.out.mono ?_
              rintro e w5 ⟨rfl, hb5, hE5⟩
              have HB5 := Lib.hid (HB4.out.trans (hE5.mono (Nat.le_succ _)))
              have HA5 := Lib.hid hb5
              clear hE5 hb5
              go_wp2_with fail
              have hkg := HKG.out
              go_roundg f
              case rel => exact ⟨k + 1, _, by go_num, by omega, by omega, by omega, HN, HA5, HB5⟩
              case measure => omega
        · have HE : Hid (A = R) := Lib.hid (by
            have h := HW.out
            rw [outF, if_pos (by omega), List.append_nil] at h; exact h)
          rw [HE.out] at HA
          go_wp2_with fail
          refine (Tryz.Builder_String_any _ _ R _ HA.out hsz1).mono ?_
          rintro e w2 ⟨rfl, hE2⟩
          have HB2 := Lib.hid (HB.out.trans (hE2.mono (Nat.le_succ _)))
          clear hE2
          go_wp2_with fail
          go_ret
          exact show_one HB2.out rfl _
end Go.Proofs.YtkcpbjoolfojjaaGreatDoor.ip6
namespace Go.Proofs.YtkcpbjoolfojjaaGreatDoor.rshow6
open Go.RowKit Go.Proofs.YtkcpbjoolfojjaaGreatDoor.kit Go.Proofs.YtkcpbjoolfojjaaGreatDoor.nspec Go.Proofs.YtkcpbjoolfojjaaGreatDoor.bits Go.Proofs.YtkcpbjoolfojjaaGreatDoor.dshow Go.Proofs.YtkcpbjoolfojjaaGreatDoor.rshowA Go.Proofs.YtkcpbjoolfojjaaGreatDoor.rrows6 Go.Proofs.YtkcpbjoolfojjaaGreatDoor.textsT Go.Proofs.YtkcpbjoolfojjaaGreatDoor.ip6
set_option linter.unusedVariables false

theorem isSetTake {P : Program} {ops : Array Oper} {Q : Exit → Act → World → Prop} {md : Region.Mode} {S : World → Prop} {T : Nat → Bool} {i d : Nat} {oi : Oper} {v : Value} {fuel : Nat} {listed : Array Bool} {a : Act} {w : World} (hi : ops[i]? = some oi) (hd : oi.dst = some d)
    (hs : Region.noSelect ops = true) (hf : Region.free md ops listed i = true) (hr : (Region.ready md ops listed).contains i = true)
    (hQ : ∀ c a w, Q (.panic c) (a.put oi.dst v) w → Q (.panic c) a w) (hT : heldG.waitB md ops T i = true) (hTi : T i = false) (hy : YieldsIf P ops S oi v a) (hS : S w)
    (h : heldG.wpAnyG P md ops Q S T fuel (listed.setIfInBounds i true) (a.put (some d) v) w) : heldG.wpAnyG P md ops Q S T (fuel + 1) listed a w :=
  heldG.takeG hi hs hf hr hQ hT hTi hy hS (by rw [hd]; exact h)

end Go.Proofs.YtkcpbjoolfojjaaGreatDoor.rshow6
namespace Go.Proofs.YtkcpbjoolfojjaaGreatDoor.dshowC
open Go.RowKit Go.Proofs.YtkcpbjoolfojjaaGreatDoor.kit Go.Proofs.YtkcpbjoolfojjaaGreatDoor.nspec Go.Proofs.YtkcpbjoolfojjaaGreatDoor.bits Go.Proofs.YtkcpbjoolfojjaaGreatDoor.bld Go.Proofs.YtkcpbjoolfojjaaGreatDoor.dshow Go.Proofs.YtkcpbjoolfojjaaGreatDoor.rsplit Go.Proofs.YtkcpbjoolfojjaaGreatDoor.dshowA Go.Proofs.YtkcpbjoolfojjaaGreatDoor.tname Go.Proofs.YtkcpbjoolfojjaaGreatDoor.fld Go.Proofs.YtkcpbjoolfojjaaGreatDoor.dshowB
set_option linter.unusedVariables false

theorem isSetTake {P : Program} {ops : Array Oper} {Q : Exit → Act → World → Prop} {md : Region.Mode} {S : World → Prop} {T : Nat → Bool} {i d : Nat} {oi : Oper} {v : Value} {fuel : Nat} {listed : Array Bool} {a : Act} {w : World} (hi : ops[i]? = some oi) (hd : oi.dst = some d)
    (hs : Region.noSelect ops = true) (hf : Region.free md ops listed i = true) (hr : (Region.ready md ops listed).contains i = true)
    (hQ : ∀ c a w, Q (.panic c) (a.put oi.dst v) w → Q (.panic c) a w) (hT : heldG.waitB md ops T i = true) (hTi : T i = false) (hy : YieldsIf P ops S oi v a) (hS : S w)
    (h : heldG.wpAnyG P md ops Q S T fuel (listed.setIfInBounds i true) (a.put (some d) v) w) : heldG.wpAnyG P md ops Q S T (fuel + 1) listed a w :=
  heldG.takeG hi hs hf hr hQ hT hTi hy hS (by rw [hd]; exact h)
theorem at_byte (s : ByteArray) (k : Nat) (h : k < s.size) {c : UInt8} (hc : s.data.toList.getD k 0 = c) : s[k] = c := by rw [← hc, getD_at s k h]
theorem dec_size (c : UInt8) {T : ByteArray} (h : (⟨(Lib.decDigits c.toNat).toArray⟩ : ByteArray) = T) : T.size ≤ 3 := by rw [← h, mk_size]; exact dec_byte c
theorem ip4_put (s : ByteArray) {a b c d : UInt8} {A B C D : ByteArray} (ha : s.data.toList.getD 0 0 = a) (hb : s.data.toList.getD 1 0 = b) (hc : s.data.toList.getD 2 0 = c) (hd : s.data.toList.getD 3 0 = d)
    (hA : (⟨(Lib.decDigits a.toNat).toArray⟩ : ByteArray) = A) (hB : (⟨(Lib.decDigits b.toNat).toArray⟩ : ByteArray) = B) (hC : (⟨(Lib.decDigits c.toNat).toArray⟩ : ByteArray) = C) (hD : (⟨(Lib.decDigits d.toNat).toArray⟩ : ByteArray) = D) :
    ip4S s.data.toList = (A ++ ⟨#[46]⟩ ++ B ++ ⟨#[46]⟩ ++ C ++ ⟨#[46]⟩ ++ D).data.toList := by
  unfold ip4S
  rw [ha, hb, hc, hd, ← hA, ← hB, ← hC, ← hD]
  simp
set_option maxRecDepth 100000 in
set_option maxHeartbeats 4000000 in
theorem ip4_show (s : ByteArray) (w : World) (hs : s.size = 4) (hP : PowT w) :
    Calls Tryz.prog 138 #[.agg #[], .string s] w (ShowPost w (showF .ip4 s.data.toList)) := by
  have hB0 : Below w.heap.size w (w.alloc (.cells #[] 83)) := (Below.refl w.heap.size w).alloc (Nat.le_refl _) (.cells #[] 83)
  have hB00 := hB0.drew
  obtain ⟨c0, h0⟩ : ∃ c, s.data.toList.getD 0 0 = c := ⟨_, rfl⟩
  obtain ⟨c1, h1⟩ : ∃ c, s.data.toList.getD 1 0 = c := ⟨_, rfl⟩
  obtain ⟨c2, h2⟩ : ∃ c, s.data.toList.getD 2 0 = c := ⟨_, rfl⟩
  obtain ⟨c3, h3⟩ : ∃ c, s.data.toList.getD 3 0 = c := ⟨_, rfl⟩
  obtain ⟨T0, t0⟩ : ∃ T : ByteArray, (⟨(Lib.decDigits c0.toNat).toArray⟩ : ByteArray) = T := ⟨_, rfl⟩
  obtain ⟨T1, t1⟩ : ∃ T : ByteArray, (⟨(Lib.decDigits c1.toNat).toArray⟩ : ByteArray) = T := ⟨_, rfl⟩
  obtain ⟨T2, t2⟩ : ∃ T : ByteArray, (⟨(Lib.decDigits c2.toNat).toArray⟩ : ByteArray) = T := ⟨_, rfl⟩
  obtain ⟨T3, t3⟩ : ∃ T : ByteArray, (⟨(Lib.decDigits c3.toNat).toArray⟩ : ByteArray) = T := ⟨_, rfl⟩
  have hput := Lib.hid (ip4_put s h0 h1 h2 h3 t0 t1 t2 t3)
  have z0 := dec_size c0 t0; have z1 := dec_size c1 t1; have z2 := dec_size c2 t2; have z3 := dec_size c3 t3
  have CD : ∀ (c : UInt8) (T : ByteArray), (⟨(Lib.decDigits c.toNat).toArray⟩ : ByteArray) = T → ∀ z : Int, z = (c.toNat : Int) → Hid (∀ wx, Below w.heap.size w wx → Calls Tryz.prog 28 #[.int .i64 z] wx fun e w' => e = .returned (.string T) ∧ Below w.heap.size w w') := by
    intro c T hT z hz
    refine Lib.hid (fun wx hx => ?_)
    rw [hz]
    refine (digits_nat c.toNat (by have := c.toNat_lt; omega) wx ?_).mono ?_
    · unfold PowT Lib.TabIs World.var? at hP ⊢
      cases hg : Tryz.prog.globalNamed "internal/strconv.uint64pow10" with
      | none => rw [hg] at hP; cases hP
      | some g =>
        rw [hg] at hP
        simp only [Option.bind_some] at hP ⊢
        have hlt : g < w.heap.size := by
          rcases Nat.lt_or_ge g w.heap.size with h' | h'
          · exact h'
          · rw [Array.getElem?_eq_none h'] at hP; cases hP
        rw [hx.block g hlt]; exact hP
    · rintro e w' ⟨rfl, hb⟩
      exact ⟨by rw [hT], hx.trans (hb.mono hx.size)⟩
  have C0 := CD c0 T0 t0 (IntKind.i64.wrap (c0.toNat : Int)) (IntWalk.i64_in _ (by have := c0.toNat_lt; omega))
  have K0 := CD c0 T0 t0 (c0.toNat : Int) rfl
  have C1 := CD c1 T1 t1 (IntKind.i64.wrap (c1.toNat : Int)) (IntWalk.i64_in _ (by have := c1.toNat_lt; omega))
  have K1 := CD c1 T1 t1 (c1.toNat : Int) rfl
  have C2 := CD c2 T2 t2 (IntKind.i64.wrap (c2.toNat : Int)) (IntWalk.i64_in _ (by have := c2.toNat_lt; omega))
  have K2 := CD c2 T2 t2 (c2.toNat : Int) rfl
  have C3 := CD c3 T3 t3 (IntKind.i64.wrap (c3.toNat : Int)) (IntWalk.i64_in _ (by have := c3.toNat_lt; omega))
  have K3 := CD c3 T3 t3 (c3.toNat : Int) rfl
  have i0 := congrArg (fun c : UInt8 => Value.int .u8 (c.toNat : Int)) (at_byte s 0 (by omega) h0)
  have i1 := congrArg (fun c : UInt8 => Value.int .u8 (c.toNat : Int)) (at_byte s 1 (by omega) h1)
  have i2 := congrArg (fun c : UInt8 => Value.int .u8 (c.toNat : Int)) (at_byte s 2 (by omega) h2)
  have i3 := congrArg (fun c : UInt8 => Value.int .u8 (c.toNat : Int)) (at_byte s 3 (by omega) h3)
  have b0 := byte_lt c0; have b1 := byte_lt c1; have b2 := byte_lt c2; have b3 := byte_lt c3
  rw [showF]
  obtain ⟨R, hR⟩ : ∃ R, ip4S s.data.toList = R := ⟨_, rfl⟩
  have HR := Lib.hid (hput.out.symm.trans hR)
  rw [hR]
  clear hput hR t0 t1 t2 t3 h0 h1 h2 h3 CD hP
  go_enter Tryz.func138, Tryz.ntmps138
  go_upto_region 1 with (fail)
  have hS0 := hB00
  clear hB0 hB00
  refine heldG.regionG (fun w' => Below w.heap.size w w') (fun _ => false) (by kernel_rfl) ?_
  refine isSetTake (i := 0) (d := 5) (v := .string s) rfl rfl (by kernel_rfl) (by kernel_rfl) (by kernel_rfl) (fun _ _ _ h => h) (by kernel_rfl) rfl (Or.inl ⟨by kernel_rfl, ?_⟩) hS0 ?_
  · intro wz hSw
    go_simp
  try simp only [Act.put, List.setIfInBounds_toArray, List.set_cons_zero, List.set_cons_succ]
  refine isSetTake (i := 1) (d := 6) (v := .int .u8 (c0.toNat : Int)) rfl rfl (by kernel_rfl) (by kernel_rfl) (by kernel_rfl) (fun _ _ _ h => h) (by kernel_rfl) rfl (Or.inl ⟨by kernel_rfl, ?_⟩) hS0 ?_
  · intro wz hSw
    go_simp
  try simp only [Act.put, List.setIfInBounds_toArray, List.set_cons_zero, List.set_cons_succ]
  refine isSetTake (i := 2) (d := 7) (v := .int .i64 (c0.toNat : Int)) rfl rfl (by kernel_rfl) (by kernel_rfl) (by kernel_rfl) (fun _ _ _ h => h) (by kernel_rfl) rfl (Or.inl ⟨by kernel_rfl, ?_⟩) hS0 ?_
  · intro wz hSw
    go_simp; try (exact IntWalk.i64_in _ (by omega))
  try simp only [Act.put, List.setIfInBounds_toArray, List.set_cons_zero, List.set_cons_succ]
  refine isSetTake (i := 5) (d := 10) (v := .string s) rfl rfl (by kernel_rfl) (by kernel_rfl) (by kernel_rfl) (fun _ _ _ h => h) (by kernel_rfl) rfl (Or.inl ⟨by kernel_rfl, ?_⟩) hS0 ?_
  · intro wz hSw
    go_simp
  try simp only [Act.put, List.setIfInBounds_toArray, List.set_cons_zero, List.set_cons_succ]
  refine isSetTake (i := 6) (d := 11) (v := .int .u8 (c1.toNat : Int)) rfl rfl (by kernel_rfl) (by kernel_rfl) (by kernel_rfl) (fun _ _ _ h => h) (by kernel_rfl) rfl (Or.inl ⟨by kernel_rfl, ?_⟩) hS0 ?_
  · intro wz hSw
    go_simp
  try simp only [Act.put, List.setIfInBounds_toArray, List.set_cons_zero, List.set_cons_succ]
  refine isSetTake (i := 7) (d := 12) (v := .int .i64 (c1.toNat : Int)) rfl rfl (by kernel_rfl) (by kernel_rfl) (by kernel_rfl) (fun _ _ _ h => h) (by kernel_rfl) rfl (Or.inl ⟨by kernel_rfl, ?_⟩) hS0 ?_
  · intro wz hSw
    go_simp; try (exact IntWalk.i64_in _ (by omega))
  try simp only [Act.put, List.setIfInBounds_toArray, List.set_cons_zero, List.set_cons_succ]
  refine isSetTake (i := 11) (d := 16) (v := .string s) rfl rfl (by kernel_rfl) (by kernel_rfl) (by kernel_rfl) (fun _ _ _ h => h) (by kernel_rfl) rfl (Or.inl ⟨by kernel_rfl, ?_⟩) hS0 ?_
  · intro wz hSw
    go_simp
  try simp only [Act.put, List.setIfInBounds_toArray, List.set_cons_zero, List.set_cons_succ]
  refine isSetTake (i := 12) (d := 17) (v := .int .u8 (c2.toNat : Int)) rfl rfl (by kernel_rfl) (by kernel_rfl) (by kernel_rfl) (fun _ _ _ h => h) (by kernel_rfl) rfl (Or.inl ⟨by kernel_rfl, ?_⟩) hS0 ?_
  · intro wz hSw
    go_simp
  try simp only [Act.put, List.setIfInBounds_toArray, List.set_cons_zero, List.set_cons_succ]
  refine isSetTake (i := 13) (d := 18) (v := .int .i64 (c2.toNat : Int)) rfl rfl (by kernel_rfl) (by kernel_rfl) (by kernel_rfl) (fun _ _ _ h => h) (by kernel_rfl) rfl (Or.inl ⟨by kernel_rfl, ?_⟩) hS0 ?_
  · intro wz hSw
    go_simp; try (exact IntWalk.i64_in _ (by omega))
  try simp only [Act.put, List.setIfInBounds_toArray, List.set_cons_zero, List.set_cons_succ]
  refine isSetTake (i := 17) (d := 22) (v := .string s) rfl rfl (by kernel_rfl) (by kernel_rfl) (by kernel_rfl) (fun _ _ _ h => h) (by kernel_rfl) rfl (Or.inl ⟨by kernel_rfl, ?_⟩) hS0 ?_
  · intro wz hSw
    go_simp
  try simp only [Act.put, List.setIfInBounds_toArray, List.set_cons_zero, List.set_cons_succ]
  refine isSetTake (i := 18) (d := 23) (v := .int .u8 (c3.toNat : Int)) rfl rfl (by kernel_rfl) (by kernel_rfl) (by kernel_rfl) (fun _ _ _ h => h) (by kernel_rfl) rfl (Or.inl ⟨by kernel_rfl, ?_⟩) hS0 ?_
  · intro wz hSw
    go_simp
  try simp only [Act.put, List.setIfInBounds_toArray, List.set_cons_zero, List.set_cons_succ]
  refine isSetTake (i := 19) (d := 24) (v := .int .i64 (c3.toNat : Int)) rfl rfl (by kernel_rfl) (by kernel_rfl) (by kernel_rfl) (fun _ _ _ h => h) (by kernel_rfl) rfl (Or.inl ⟨by kernel_rfl, ?_⟩) hS0 ?_
  · intro wz hSw
    go_simp; try (exact IntWalk.i64_in _ (by omega))
  try simp only [Act.put, List.setIfInBounds_toArray, List.set_cons_zero, List.set_cons_succ]
  refine heldG.readyG (rs := [3]) (by kernel_rfl) (by simp) ?_
  refine heldG.AllG.cons rfl (fun KK hKK => ?_) heldG.AllG.nil
  go_simp
  refine (K0.out _ hS0).mono ?_
  rintro en w1 ⟨rfl, hS1⟩
  dsimp only
  refine hKK.out _ _ (fun _ => hS1) ?_; clear hKK KK
  try simp only [Act.put, List.setIfInBounds_toArray, List.set_cons_zero, List.set_cons_succ]
  refine isSetTake (i := 4) (d := 9) (v := .string (T0 ++ ⟨#[46]⟩)) rfl rfl (by kernel_rfl) (by kernel_rfl) (by kernel_rfl) (fun _ _ _ h => h) (by kernel_rfl) rfl (Or.inl ⟨by kernel_rfl, ?_⟩) hS1 ?_
  · intro wz hSw
    go_simp; try omega
  try simp only [Act.put, List.setIfInBounds_toArray, List.set_cons_zero, List.set_cons_succ]
  refine heldG.readyG (rs := [8]) (by kernel_rfl) (by simp) ?_
  refine heldG.AllG.cons rfl (fun KK hKK => ?_) heldG.AllG.nil
  go_simp
  refine (K1.out _ hS1).mono ?_
  rintro en w2 ⟨rfl, hS2⟩
  dsimp only
  refine hKK.out _ _ (fun _ => hS2) ?_; clear hKK KK
  try simp only [Act.put, List.setIfInBounds_toArray, List.set_cons_zero, List.set_cons_succ]
  refine isSetTake (i := 9) (d := 14) (v := .string (T0 ++ ⟨#[46]⟩ ++ T1)) rfl rfl (by kernel_rfl) (by kernel_rfl) (by kernel_rfl) (fun _ _ _ h => h) (by kernel_rfl) rfl (Or.inl ⟨by kernel_rfl, ?_⟩) hS2 ?_
  · intro wz hSw
    go_simp; try omega
  try simp only [Act.put, List.setIfInBounds_toArray, List.set_cons_zero, List.set_cons_succ]
  refine isSetTake (i := 10) (d := 15) (v := .string (T0 ++ ⟨#[46]⟩ ++ T1 ++ ⟨#[46]⟩)) rfl rfl (by kernel_rfl) (by kernel_rfl) (by kernel_rfl) (fun _ _ _ h => h) (by kernel_rfl) rfl (Or.inl ⟨by kernel_rfl, ?_⟩) hS2 ?_
  · intro wz hSw
    go_simp; try omega
  try simp only [Act.put, List.setIfInBounds_toArray, List.set_cons_zero, List.set_cons_succ]
  refine heldG.readyG (rs := [14]) (by kernel_rfl) (by simp) ?_
  refine heldG.AllG.cons rfl (fun KK hKK => ?_) heldG.AllG.nil
  go_simp
  refine (K2.out _ hS2).mono ?_
  rintro en w3 ⟨rfl, hS3⟩
  dsimp only
  refine hKK.out _ _ (fun _ => hS3) ?_; clear hKK KK
  try simp only [Act.put, List.setIfInBounds_toArray, List.set_cons_zero, List.set_cons_succ]
  refine isSetTake (i := 15) (d := 20) (v := .string (T0 ++ ⟨#[46]⟩ ++ T1 ++ ⟨#[46]⟩ ++ T2)) rfl rfl (by kernel_rfl) (by kernel_rfl) (by kernel_rfl) (fun _ _ _ h => h) (by kernel_rfl) rfl (Or.inl ⟨by kernel_rfl, ?_⟩) hS3 ?_
  · intro wz hSw
    go_simp; try omega
  try simp only [Act.put, List.setIfInBounds_toArray, List.set_cons_zero, List.set_cons_succ]
  refine isSetTake (i := 16) (d := 21) (v := .string (T0 ++ ⟨#[46]⟩ ++ T1 ++ ⟨#[46]⟩ ++ T2 ++ ⟨#[46]⟩)) rfl rfl (by kernel_rfl) (by kernel_rfl) (by kernel_rfl) (fun _ _ _ h => h) (by kernel_rfl) rfl (Or.inl ⟨by kernel_rfl, ?_⟩) hS3 ?_
  · intro wz hSw
    go_simp; try omega
  try simp only [Act.put, List.setIfInBounds_toArray, List.set_cons_zero, List.set_cons_succ]
  refine heldG.readyG (rs := [20]) (by kernel_rfl) (by simp) ?_
  refine heldG.AllG.cons rfl (fun KK hKK => ?_) heldG.AllG.nil
  go_simp
  refine (K3.out _ hS3).mono ?_
  rintro en w4 ⟨rfl, hS4⟩
  dsimp only
  refine hKK.out _ _ (fun _ => hS4) ?_; clear hKK KK
  try simp only [Act.put, List.setIfInBounds_toArray, List.set_cons_zero, List.set_cons_succ]
  refine isSetTake (i := 21) (d := 26) (v := .string (T0 ++ ⟨#[46]⟩ ++ T1 ++ ⟨#[46]⟩ ++ T2 ++ ⟨#[46]⟩ ++ T3)) rfl rfl (by kernel_rfl) (by kernel_rfl) (by kernel_rfl) (fun _ _ _ h => h) (by kernel_rfl) rfl (Or.inl ⟨by kernel_rfl, ?_⟩) hS4 ?_
  · intro wz hSw
    go_simp; try omega
  try simp only [Act.put, List.setIfInBounds_toArray, List.set_cons_zero, List.set_cons_succ]
  refine heldG.readyG (rs := [22]) (by kernel_rfl) (by simp) ?_
  refine heldG.AllG.cons rfl (fun KK hKK => ?_) heldG.AllG.nil
  go_simp
  have hS5 := Below.alloc hS4 hS4.size (.cells #[.string (T0 ++ ⟨#[46]⟩ ++ T1 ++ ⟨#[46]⟩ ++ T2 ++ ⟨#[46]⟩ ++ T3)] 9)
  refine hKK.out _ _ (fun _ => hS5) ?_; clear hKK KK
  try simp only [Act.put, List.setIfInBounds_toArray, List.set_cons_zero, List.set_cons_succ]
  refine isSetTake (i := 23) (d := 4) (v := .slice (some ⟨w4.heap.size, 0, none⟩) 1 1) rfl rfl (by kernel_rfl) (by kernel_rfl) (by kernel_rfl) (fun _ _ _ h => h) (by kernel_rfl) rfl (Or.inl ⟨by kernel_rfl, ?_⟩) hS5 ?_
  · intro wz hSw
    go_simp
  try simp only [Act.put, List.setIfInBounds_toArray, List.set_cons_zero, List.set_cons_succ]
  refine heldG.doneG (by kernel_rfl) ?_ _
  go_wp2_with fail
  go_ret
  exact show_one hS4 HR.out _
end Go.Proofs.YtkcpbjoolfojjaaGreatDoor.dshowC
namespace Go.Proofs.YtkcpbjoolfojjaaGreatDoor.dshowD
open Go.RowKit Go.Proofs.YtkcpbjoolfojjaaGreatDoor.kit Go.Proofs.YtkcpbjoolfojjaaGreatDoor.nspec Go.Proofs.YtkcpbjoolfojjaaGreatDoor.bits Go.Proofs.YtkcpbjoolfojjaaGreatDoor.bld Go.Proofs.YtkcpbjoolfojjaaGreatDoor.dshow Go.Proofs.YtkcpbjoolfojjaaGreatDoor.rsplit Go.Proofs.YtkcpbjoolfojjaaGreatDoor.dshowA Go.Proofs.YtkcpbjoolfojjaaGreatDoor.tname Go.Proofs.YtkcpbjoolfojjaaGreatDoor.fld Go.Proofs.YtkcpbjoolfojjaaGreatDoor.dshowB Go.Proofs.YtkcpbjoolfojjaaGreatDoor.takes Go.Proofs.YtkcpbjoolfojjaaGreatDoor.textsT Go.Proofs.YtkcpbjoolfojjaaGreatDoor.small Go.Proofs.YtkcpbjoolfojjaaGreatDoor.val Go.Proofs.YtkcpbjoolfojjaaGreatDoor.typesW Go.Proofs.YtkcpbjoolfojjaaGreatDoor.ints
set_option linter.unusedVariables false

theorem ext0 (s : ByteArray) (n : Nat) : (s.extract 0 n).data.toList = s.data.toList.take n := by rw [Lib.extract_data]; simp
theorem chain_any : ∀ (f : Nat) (a b : Nat) (d : Bs), 1 ≤ a → 1 ≤ b → 0 ≤ textsF f a d → 0 ≤ textsF f b d
  | 0, _, _, _, _, _, h => by simp [textsF] at h
  | f + 1, a, b, [], ha, hb, h => by simp only [textsF]; rw [if_neg (by omega)]; omega
  | f + 1, a, b, c :: r, ha, hb, h => by
    simp only [textsF] at h ⊢
    split at h
    · omega
    · rename_i hc; rw [if_neg hc]; exact chain_any f _ _ _ (by omega) (by omega) h
/-- a row of texts, maybe none -/
def Chain (d : Bs) : Prop := 0 ≤ textsF (d.length + 1) 1 d
theorem Chain.cons {c : UInt8} {r : Bs} (h : Chain (c :: r)) : c.toNat ≤ r.length ∧ Chain (r.drop c.toNat) := by
  unfold Chain at h ⊢
  rw [List.length_cons, textsF] at h
  split at h
  · omega
  · rename_i hc
    refine ⟨by omega, ?_⟩
    rw [texts_fuel _ ((r.drop c.toNat).length + 1) _ _ (by rw [List.length_drop]; omega) (by omega)] at h
    exact chain_any _ _ _ _ (by omega) (by omega) h
theorem chain_of {d : Bs} (h : OkP .texts d) : Chain d := by
  unfold OkP at h
  cases d with
  | nil => unfold Chain; simp [textsF]
  | cons c r =>
    simp only [takeS, textsS] at h
    unfold Chain
    rw [textsF] at h ⊢
    split at h
    · simp at h; omega
    · rename_i hc
      rw [if_neg hc]
      exact chain_any _ (0 + (1 + c.toNat)) _ _ (by omega) (by omega) (by rw [h]; exact Int.natCast_nonneg _)
theorem words_step {P R : List Bs} {c : UInt8} {r d : Bs} (h : P ++ textsW d = R) (hd : d = c :: r) : (P ++ [quoteS (r.take c.toNat)]) ++ textsW (r.drop c.toNat) = R := by
  subst hd
  rw [textsW_cons] at h
  rw [← h]; simp

set_option maxRecDepth 100000 in
set_option maxHeartbeats 2400000 in
theorem texts_show (s : ByteArray) (w : World) (hs : s.size ≤ 65535) (hok : OkP .texts s.data.toList) :
    Calls Tryz.prog 157 #[.agg #[], .string s] w (ShowPost w (showF .texts s.data.toList)) := by
  have HBA := Lib.hid ((Below.refl w.heap.size w).alloc (Nat.le_refl _) (.cells #[] 86))
  obtain ⟨R, HR⟩ : ∃ R, Hid ([] ++ textsW s.data.toList = R) := ⟨_, Lib.hid rfl⟩
  have e0 : showF .texts s.data.toList = R := HR.out
  rw [e0]
  have HC := Lib.hid (chain_of hok)
  clear e0 hok
  go_enter Tryz.func157, Tryz.ntmps157
  go_wp2_with fail
  go_loopg [1, 4, 5] (s.size + 1) (fun gas dv ov _ wr => ∃ (u : ByteArray) (P : List Bs), dv = .string u ∧ u.size < gas ∧ P.length + u.size ≤ 65535 ∧ Hid (P ++ textsW u.data.toList = R) ∧ Hid (Chain u.data.toList) ∧ Hid (wr.ownsRow w.heap.size 9 1 ov P.length (P.map strV)) ∧ Hid (Below w.heap.size w wr))
  case atStart => exact ⟨s, [], rfl, by omega, by simpa using hs, HR, HC, Lib.hid (World.ownsRow_nil _ _ _ _), HBA⟩
  case round =>
    obtain ⟨u, P, rfl, hg, hP, HW, HCH, HO, HB⟩ := hrel
    have HG := Lib.hid hg; clear hg
    have hsz := HB.out.size
    by_cases h0 : 0 < u.size
    · have hne : u.toList.isEmpty = false := by
        rw [Lib.toList_data]
        cases hl : u.data.toList with
        | nil => rw [← size_len, hl] at h0; simp at h0
        | cons a b => rfl
      have hd := drop_cons u 0 h0
      obtain ⟨c, hc⟩ : ∃ c, u[0] = c := ⟨_, rfl⟩
      obtain ⟨r, hr⟩ : ∃ r, u.data.toList.drop (0 + 1) = r := ⟨_, rfl⟩
      rw [hc, hr, List.drop_zero] at hd
      have hrl : r.length + 1 = u.size := by rw [← size_len, hd, List.length_cons]
      have hch := HCH.out
      rw [hd] at hch
      obtain ⟨hcr, hch2⟩ := hch.cons
      have HST := Lib.hid (words_step HW.out hd)
      obtain ⟨n, hn⟩ : ∃ n, 1 + c.toNat = n := ⟨_, rfl⟩
      have hnu : n ≤ u.size := by omega
      have hn1 : 1 ≤ n := by omega
      have CT := Lib.hid (fun w => text_any u w (by omega))
      have e1 : textS u.data.toList = (n : Int) := by rw [hd]; simp only [textS]; rw [if_neg (by omega), ← hn]; simp
      rw [e1] at CT
      obtain ⟨x, hx⟩ : ∃ x, u.extract 0 n = x := ⟨_, rfl⟩
      have hxd : x.data.toList = c :: r.take c.toNat := by
        rw [← hx, ext0, hd, ← hn, Nat.add_comm 1, List.take_succ_cons]
      have hxs : x.size ≤ 65535 := by rw [← hx, ByteArray.size_extract]; omega
      have hx1 : 1 ≤ x.size := by rw [← hx, ByteArray.size_extract]; omega
      obtain ⟨y, hy⟩ : ∃ y, u.extract n u.size = y := ⟨_, rfl⟩
      have hyd : y.data.toList = r.drop c.toNat := by
        rw [← hy, ext_end, hd, ← hn, Nat.add_comm 1, List.drop_succ_cons]
      have hys : y.size = u.size - n := by rw [← hy, ByteArray.size_extract]; omega
      have CS := Lib.hid (fun w => text_show x w hxs hx1)
      rw [showF, hxd, List.drop_succ_cons, List.drop_zero] at CS
      rw [← hyd] at HST hch2
      have HCH2 := Lib.hid hch2
      have HYS := Lib.hid hys
      obtain ⟨q, hq⟩ : ∃ q, quoteS (r.take c.toNat) = q := ⟨_, rfl⟩
      rw [hq] at CS HST
      have hni : 0 ≤ (n : Int) := by omega
      have hnui : (n : Int) ≤ (u.size : Int) := by omega
      clear hd hr hc hrl hch hch2 hcr e1 hxd hyd hq hn hys
      go_wp2_with fail
      refine (CT.out _).mono ?_
      rintro e w1 ⟨rfl, hB1⟩
      have HB1 := Lib.hid (HB.out.trans (hB1.mono hsz))
      have HO1 := Lib.hid (own_below HO.out hB1)
      have hsz1 := HB1.out.size
      clear hB1
      go_wp2_with fail
      refine (CS.out _).mono ?_
      rintro e w2 ⟨hB2, v2, rfl, hlv⟩
      have HB2 := Lib.hid (HB1.out.trans (hB2.mono hsz1))
      have HO2 := Lib.hid (own_below HO1.out hB2)
      have HLV := Lib.hid hlv
      have hsz2 := HB2.out.size
      clear hB2 hlv
      go_wp2_with (at_builtin; go_must (refine wpList_append_lv rfl _ _ rfl w.heap.size _ P rfl HO2.out w1.heap.size [q] _ rfl HLV.out ?c1 hsz2 ?_))
      case c1 => simp; omega
      intro v' w3 hown' hgrow
      have HO3 : Hid (w3.ownsRow w.heap.size 9 1 v' (P ++ [q]).length ((P ++ [q]).map strV)) := Lib.hid (by simpa using hown')
      have HB3 := Lib.hid (HB2.out.grown hgrow hsz2 (fun k hk => (HO2.out.lt k hk).1))
      clear hown' hgrow
      go_wp2_with fail
      have hg := HG.out
      have h2 := HYS.out
      go_roundg (gk - 1)
      case rel => exact ⟨y, P ++ [q], by first | rfl | (rw [hy]), by omega, by rw [List.length_append, List.length_singleton]; omega, HST, HCH2, HO3, HB3⟩
      case measure => omega
    · have hne : u.toList.isEmpty = true := by
        have : u.data.toList = [] := List.eq_nil_of_length_eq_zero (by rw [size_len]; omega)
        rw [Lib.toList_data, this]; rfl
      have HE : Hid (P = R) := Lib.hid (by
        have h := HW.out
        have h' : u.data.toList = [] := List.eq_nil_of_length_eq_zero (by rw [size_len]; omega)
        rw [h', textsW_nil, List.append_nil] at h; exact h)
      go_wp2_with fail
      go_ret
      exact ⟨HB.out, _, rfl, by rw [← HE.out]; exact LV.of_own HO.out⟩

theorem pick_lt : ∀ (l : List Nat) (b k : Nat), ∀ x ∈ pickL b k l, x < b * 256 + k + l.length
  | [], b, k => by simp [pickL]
  | y :: l, b, k => by
    intro x hx
    have ih := pick_lt l b (k + 1)
    simp only [pickL] at hx
    split at hx
    · rcases List.mem_cons.1 hx with rfl | hx
      · simp only [List.length_cons]; omega
      · have := ih x hx; simp only [List.length_cons]; omega
    · have := ih x hx; simp only [List.length_cons]; omega
theorem typesF_lt : ∀ (f : Nat) (last : Int) (out : List Nat) (d : Bs) (l : List Nat), (∀ x ∈ out, x < 65536) → typesF f last out d = some l → ∀ x ∈ l, x < 65536
  | 0, last, out, d, l, ho, h => by simp [typesF] at h
  | f + 1, last, out, [], l, ho, h => by
    have e : out = l := by simpa [typesF] using h
    rw [← e]; exact ho
  | f + 1, last, out, [b], l, ho, h => by simp [typesF] at h
  | f + 1, last, out, b :: n :: m, l, ho, h => by
    simp only [typesF] at h
    split at h
    · cases h
    · rename_i hc
      refine typesF_lt f _ _ _ _ ?_ h
      intro x hx
      rcases List.mem_append.1 hx with hx | hx
      · exact ho x hx
      · have h2 := pick_lt (bitsL (m.take n.toNat)) b.toNat 0 x hx
        rw [bitsL_len, List.length_take] at h2
        have := b.toNat_lt
        omega
theorem types_lt {d : Bs} {l : List Nat} (h : typesS d = some l) : ∀ x ∈ l, x < 65536 := by
  unfold typesS at h
  cases e : typesF (d.length + 1) (-1) [] d with
  | none => rw [e] at h; cases h
  | some l' =>
    rw [e] at h
    simp only at h
    split at h
    · cases h
    · have : l' = l := by simpa using h
      subst this
      exact typesF_lt _ _ _ _ _ (by simp) e
def tnW (t : Nat) : Bs := tnameS ((t : Nat) : Int)
theorem map_step {P R : List Bs} {l : List Nat} {k t : Nat} (h : P ++ (l.drop k).map tnW = R) (ht : l[k]? = some t) : (P ++ [tnW t]) ++ (l.drop (k + 1)).map tnW = R := by
  obtain ⟨h1, h2⟩ := List.getElem?_eq_some_iff.1 ht
  rw [List.drop_eq_getElem_cons h1, h2] at h
  rw [← h]; simp
theorem map_end {P R : List Bs} {l : List Nat} {k : Nat} (h : P ++ (l.drop k).map tnW = R) (hk : l.length ≤ k) : P = R := by
  rw [List.drop_eq_nil_iff.2 hk] at h; simpa using h
theorem kinds_ok {d : Bs} (h : OkP .kinds d) : ∃ l, typesS d = some l := by
  unfold OkP at h
  simp only [takeS] at h
  cases e : typesS d with
  | none => rw [e] at h; simp at h
  | some l => exact ⟨l, rfl⟩
set_option maxRecDepth 100000 in
set_option maxHeartbeats 2400000 in
theorem kinds_show (s : ByteArray) (w : World) (hs : s.size ≤ 65535) (hok : OkP .kinds s.data.toList) (hP : PowT w) :
    Calls Tryz.prog 179 #[.agg #[], .string s] w (ShowPost w (showF .kinds s.data.toList)) := by
  have HBA := Lib.hid ((Below.refl w.heap.size w).alloc (Nat.le_refl _) (.cells #[] 91))
  obtain ⟨l, hl⟩ := kinds_ok hok
  obtain ⟨R, HR⟩ : ∃ R, Hid ([] ++ (l.drop 0).map tnW = R) := ⟨_, Lib.hid rfl⟩
  have e0 : showF .kinds s.data.toList = R := by rw [showF, hl, ← HR.out]; rfl
  rw [e0]
  obtain ⟨n, hn⟩ : ∃ n, l.length = n := ⟨_, rfl⟩
  have hnb : n ≤ 524280 := by have := types_count hl; rw [size_len] at this; omega
  have HLT := Lib.hid (types_lt hl)
  have CT := Lib.hid (fun w => types_any s w (by omega))
  have HL := Lib.hid hl; have HN := Lib.hid hn; have HP := Lib.hid hP
  clear e0 hok hl hn hP
  go_enter Tryz.func179, Tryz.ntmps179
  go_wp2_with fail
  refine (CT.out _).mono ?_
  rintro e w1 ⟨hB1, ⟨v, l', hl', rfl, hown⟩ | ⟨hl', _⟩⟩
  case inr => rw [HL.out] at hl'; cases hl'
  obtain rfl : l = l' := Option.some.inj (HL.out.symm.trans hl')
  obtain ⟨a, c, rfl, hc1, hc2, hrd⟩ := RdN.of_own hown
  rw [HN.out] at hc1 ⊢
  have HRD := Lib.hid hrd
  have HB1 := Lib.hid (HBA.out.trans (hB1.mono HBA.out.size))
  have hz1 := HB1.out.size
  clear hB1 hown hrd hl'
  go_wp2_with fail
  go_loopg [4, 8, 16] (n + 1) (fun gas ov _ kv wr => ∃ (k : Nat) (P : List Bs), kv = .int .i64 k ∧ k ≤ n ∧ k + gas = n + 1 ∧ P.length = k ∧ Hid (P ++ (l.drop k).map tnW = R) ∧ Hid (wr.ownsRow w1.heap.size 9 1 ov P.length (P.map strV)) ∧ Hid (Below w1.heap.size w1 wr))
  case atStart => exact ⟨0, [], rfl, by omega, by omega, rfl, HR, Lib.hid (World.ownsRow_nil _ _ _ _), Lib.hid (Below.refl _ _)⟩
  case round =>
    obtain ⟨k, P, rfl, hk, hkg, hPl, HW, HO, HB⟩ := hrel
    have HKG := Lib.hid hkg; clear hkg
    have hsz := HB.out.size
    by_cases hlt : k < n
    · obtain ⟨t, ht⟩ : ∃ t, l[k]? = some t := ⟨_, List.getElem?_eq_getElem (by have := HN.out; omega)⟩
      obtain ⟨g, o, rfl, hg, hcell0⟩ := HRD.out k t ht
      have hcell := (HB.out.cell (p := ⟨g, o + k, none⟩) hg).trans hcell0
      unfold bitV at hcell
      have htb := HLT.out t (List.mem_of_getElem? ht)
      have HST := Lib.hid (map_step HW.out ht)
      have HBW := Lib.hid (HB1.out.trans (HB.out.mono hz1))
      have CN := Lib.hid (dtname_any (t : Int) (by omega) (by omega) wr (pow_below HP.out HBW.out))
      have e1 : tnameS (t : Int) = tnW t := rfl
      rw [e1] at CN
      have hk0 : 0 ≤ (k : Int) := by omega
      obtain ⟨q, hq⟩ : ∃ q, tnW t = q := ⟨_, rfl⟩
      rw [hq] at CN HST
      clear hcell0 ht e1 hq
      go_wp2_with fail
      refine CN.out.mono ?_
      rintro e w2 ⟨rfl, hB2⟩
      have HB2 := Lib.hid (HB.out.trans (hB2.mono hsz))
      have HO2 := Lib.hid (own_below HO.out hB2)
      have hz2 := HB2.out.size
      clear hB2
      have hlv : ∀ w3, w3 = w2.alloc (.cells #[.string ⟨q.toArray⟩] 9) → LV w3 (.slice (some ⟨w2.heap.size, 0, none⟩) 1 1) w2.heap.size [q] := by
        rintro _ rfl
        obtain ⟨_, v, hv, h⟩ := show_one (Below.refl w2.heap.size w2) (x := q) (X := ⟨q.toArray⟩) rfl 9
        cases hv; exact h
      have HLV := Lib.hid hlv; clear hlv
      go_wp2_with (at_builtin; go_must (refine wpList_append_lv rfl _ _ rfl w1.heap.size _ P rfl (own_below HO2.out ((Below.refl _ w2).alloc (Nat.le_refl _) _)) w2.heap.size [q] _ rfl (HLV.out _ rfl) ?c1 ?c2 ?_))
      case c1 => simp; omega
      case c2 => rw [World.size_alloc]; omega
      intro v' w3 hown' hgrow
      have HO3 : Hid (w3.ownsRow w1.heap.size 9 1 v' (P ++ [q]).length ((P ++ [q]).map strV)) := Lib.hid (by
        have e : (P ++ [q]).length = k + 1 := by rw [List.length_append, List.length_singleton, hPl]
        rw [e]; simpa using hown')
      have HB3 := Lib.hid ((HB2.out.alloc hz2 (.cells #[.string ⟨q.toArray⟩] 9)).grown hgrow (by rw [World.size_alloc]; omega) (fun k hk => (HO2.out.lt k hk).1))
      clear hown' hgrow
      go_wp2_with fail
      have hkg := HKG.out
      go_roundg (gk - 1)
      case rel => exact ⟨k + 1, P ++ [q], by go_num, by omega, by omega, by rw [List.length_append, List.length_singleton]; omega, HST, HO3, HB3⟩
      case measure => omega
    · have HE := Lib.hid (map_end HW.out (by have := HN.out; omega))
      go_wp2_with fail
      go_ret
      exact ⟨HB1.out.trans (HB.out.mono hz1), _, rfl, by rw [← HE.out]; exact (LV.of_own HO.out).mono hz1⟩
end Go.Proofs.YtkcpbjoolfojjaaGreatDoor.dshowD
namespace Go.Proofs.YtkcpbjoolfojjaaGreatDoor.rfield
open Go.RowKit Go.Proofs.YtkcpbjoolfojjaaGreatDoor.kit Go.Proofs.YtkcpbjoolfojjaaGreatDoor.nspec Go.Proofs.YtkcpbjoolfojjaaGreatDoor.bits Go.Proofs.YtkcpbjoolfojjaaGreatDoor.bld Go.Proofs.YtkcpbjoolfojjaaGreatDoor.dshow Go.Proofs.YtkcpbjoolfojjaaGreatDoor.rsplit Go.Proofs.YtkcpbjoolfojjaaGreatDoor.tname Go.Proofs.YtkcpbjoolfojjaaGreatDoor.fld Go.Proofs.YtkcpbjoolfojjaaGreatDoor.dshowB Go.Proofs.YtkcpbjoolfojjaaGreatDoor.dshowC Go.Proofs.YtkcpbjoolfojjaaGreatDoor.dshowD Go.Proofs.YtkcpbjoolfojjaaGreatDoor.val Go.Proofs.YtkcpbjoolfojjaaGreatDoor.rshowA Go.Proofs.YtkcpbjoolfojjaaGreatDoor.rshow6 Go.Proofs.YtkcpbjoolfojjaaGreatDoor.textsT Go.Proofs.YtkcpbjoolfojjaaGreatDoor.ints Go.Proofs.YtkcpbjoolfojjaaGreatDoor.rsize
set_option linter.unusedVariables false

end Go.Proofs.YtkcpbjoolfojjaaGreatDoor.rfield
namespace Go.Proofs.YtkcpbjoolfojjaaGreatDoor.joinW
open Go.RowKit Go.Proofs.YtkcpbjoolfojjaaGreatDoor.kit Go.Proofs.YtkcpbjoolfojjaaGreatDoor.nspec Go.Proofs.YtkcpbjoolfojjaaGreatDoor.bld Go.Proofs.YtkcpbjoolfojjaaGreatDoor.dshow Go.Proofs.YtkcpbjoolfojjaaGreatDoor.rsplit Go.Proofs.YtkcpbjoolfojjaaGreatDoor.dshowA Go.Proofs.YtkcpbjoolfojjaaGreatDoor.dshowB
set_option linter.unusedVariables false

theorem tot_drop {ls : List Bs} {k : Nat} {x : Bs} (h : ls[k]? = some x) : totW (ls.drop k) = x.length + 1 + totW (ls.drop (k + 1)) := by
  obtain ⟨h1, h2⟩ := List.getElem?_eq_some_iff.1 h
  rw [List.drop_eq_getElem_cons h1, h2, totW_cons]
theorem flat_go {A R x : Bs} {r : List Bs} {k : Nat} (h : A ++ (r.drop k).flatMap (fun y => (32 : UInt8) :: y) = R) (hx : r[k]? = some x) : ((A ++ [32]) ++ x) ++ (r.drop (k + 1)).flatMap (fun y => (32 : UInt8) :: y) = R := by
  obtain ⟨h1, h2⟩ := List.getElem?_eq_some_iff.1 hx
  rw [List.drop_eq_getElem_cons h1, h2] at h
  rw [← h]; simp
set_option maxRecDepth 100000 in
set_option maxHeartbeats 4000000 in
theorem join_many (ls : List Bs) (g c : Nat) (w : World) (n : Nat) (hn : ls.length = n) (h2 : 2 ≤ n) (hc : n ≤ c) (hcm : c ≤ maxLen) (hg : g < w.heap.size) (hcell : ∀ (j : Nat) (x : Bs), ls[j]? = some x → w.cell? ⟨g, j, none⟩ = some (strV x)) (ht : totW ls ≤ 1099511627776) :
    Calls Tryz.prog 31 #[.slice (some ⟨g, 0, none⟩) n c, .string ⟨#[32]⟩] w fun e w' => e = .returned (.string ⟨(joinS ls).toArray⟩) ∧ Below w.heap.size w w' := by
  obtain ⟨x0, r, hls⟩ : ∃ x0 r, ls = x0 :: r := by
    cases ls with
    | nil => simp at hn; omega
    | cons a t => exact ⟨a, t, rfl⟩
  obtain ⟨R, HR⟩ : ∃ R, Hid (x0 ++ (r.drop 0).flatMap (fun y => (32 : UInt8) :: y) = R) := ⟨_, Lib.hid rfl⟩
  have e0 : joinS ls = R := by rw [hls, ← HR.out]; rfl
  have hRl : R.length ≤ 1099511627776 := by rw [← e0]; exact Nat.le_trans (join_len ls) ht
  rw [e0]
  obtain ⟨m, hm⟩ : ∃ m, n = m + 1 := ⟨n - 1, by omega⟩
  subst hm
  have hrl : r.length = m := by rw [hls] at hn; simpa using hn
  have hx0 : ls[0]? = some x0 := by rw [hls]; rfl
  have hxr : ∀ k x, r[k]? = some x → ls[k + 1]? = some x := fun k x h => by rw [hls]; simpa using h
  have hcnt := totW_count ls
  rw [hn] at hcnt
  have HLS := Lib.hid hls; have HN := Lib.hid hn; have HCELL := Lib.hid hcell; have HRL := Lib.hid hrl; have HX0 := Lib.hid hx0; have HXR := Lib.hid hxr
  have HT : Hid (m + totW (ls.drop 0) ≤ 2199023255552) := Lib.hid (by rw [List.drop_zero]; omega)
  unfold maxLen at hcm
  have hm1 : 1 ≤ (m : Int) := by omega
  have hmb : (m : Int) ≤ 1099511627776 := by omega
  have hdv : ¬ (9223372036854775807 / (m : Int) ≤ 1) := by
    have := Int.le_ediv_of_mul_le (a := 2) (b := 9223372036854775807) (c := (m : Int)) (by omega) (by omega)
    omega
  have hc1 : (1 : Int) < (c : Int) := by omega
  have hci : (m : Int) + 1 ≤ (c : Int) := by omega
  clear e0 hn hls hcell hrl hx0 hxr ht hcnt
  go_enter Tryz.func31, Tryz.ntmps31
  go_wp2_with fail
  go_loopg [5, 7, 41] (m + 2) (fun gas av _ kv wr => ∃ (k A : Nat), kv = .int .i64 k ∧ av = .int .i64 A ∧ k ≤ m + 1 ∧ k + gas = m + 2 ∧ Hid (A + totW (ls.drop k) ≤ 2199023255552) ∧ A ≤ 2199023255552 ∧ w = wr)
  case atStart => exact ⟨0, m, rfl, by first | rfl | go_num, by omega, by omega, HT, by omega, rfl⟩
  case round =>
    obtain ⟨k, A, rfl, rfl, hk, hkg, HTK, hA, rfl⟩ := hrel
    have HKG := Lib.hid hkg; clear hkg
    by_cases hkn : k < m + 1
    · obtain ⟨x, hx⟩ : ∃ x, ls[k]? = some x := ⟨_, List.getElem?_eq_getElem (by have := HN.out; omega)⟩
      have hcl := HCELL.out k x hx
      unfold strV at hcl
      obtain ⟨X, hX⟩ : ∃ X : ByteArray, (⟨x.toArray⟩ : ByteArray) = X := ⟨_, rfl⟩
      have hXs : X.size = x.length := by rw [← hX, mk_size]
      rw [hX] at hcl
      have HT2 : Hid (A + X.size + totW (ls.drop (k + 1)) ≤ 2199023255552) := Lib.hid (by have h := HTK.out; rw [tot_drop hx] at h; omega)
      have hb : A + X.size ≤ 2199023255552 := by have := HT2.out; omega
      clear hX hXs hx
      go_wp2_with fail
      have hkg := HKG.out
      go_roundg (gk - 1)
      case rel => exact ⟨k + 1, A + X.size, by go_num, by go_num, by omega, by omega, HT2, hb, rfl⟩
      case measure => omega
    · have hke : k = m + 1 := by omega
      subst hke
      have hGB := Lib.hid ((Below.refl w.heap.size w).alloc (Nat.le_refl _) (.cells #[.pointer none, .slice none 0 0] 52))
      have CG := Lib.hid (Tryz.Builder_Grow_fresh w.heap.size w.heap.size A (w.alloc (.cells #[.pointer none, .slice none 0 0] 52)) (Nat.le_refl _) (heap_alloc_new w _) (by simp) (by omega))
      go_wp2_with fail
      refine CG.out.mono ?_
      rintro e w1 ⟨rfl, h1, hb1⟩
      have HB1 := Lib.hid (hGB.out.trans hb1)
      have HA1 : Hid (Bld w.heap.size w.heap.size [] w1) := Lib.hid (Or.inr h1)
      clear hb1 h1
      have hcl0 := (HB1.out.cell (p := ⟨g, 0, none⟩) hg).trans (HCELL.out 0 x0 HX0.out)
      unfold strV at hcl0
      obtain ⟨X, hX⟩ : ∃ X : ByteArray, (⟨x0.toArray⟩ : ByteArray) = X := ⟨_, rfl⟩
      have hXd : X.data.toList = x0 := by rw [← hX]
      rw [hX] at hcl0
      have hR0 := HR.out
      have hXl : X.size ≤ R.length := by rw [← hR0, List.length_append, ← hXd, size_len]; omega
      have CW := Lib.hid (ws w.heap.size w.heap.size [] X w1 HA1.out (by simp; omega) HB1.out.size)
      rw [hXd] at CW
      clear hX hXd hR0
      go_wp2_with fail
      refine CW.out.mono ?_
      rintro e w2 ⟨rfl, hb2, hE2⟩
      have HB2 := Lib.hid (HB1.out.trans hE2)
      have HA2 : Hid (Bld w.heap.size w.heap.size x0 w2) := Lib.hid (by simpa using hb2)
      clear hE2 hb2 hcl0
      go_wp2_with fail
      go_loopg [10, 65] (m + 1) (fun gas _ kv wr => ∃ (k : Nat) (C : Bs), kv = .int .i64 k ∧ k ≤ m ∧ k + gas = m + 1 ∧ Hid (C ++ (r.drop k).flatMap (fun y => (32 : UInt8) :: y) = R) ∧ Hid (Bld w.heap.size w.heap.size C wr) ∧ Hid (Below w.heap.size w wr))
      case atStart => exact ⟨0, x0, rfl, by omega, by omega, HR, HA2, HB2⟩
      case round =>
        obtain ⟨k, C, rfl, hk, hkg, HW, HA, HB⟩ := hrel
        have HKG2 := Lib.hid hkg; clear hkg
        have hsz := HB.out.size
        by_cases hkm : k < m
        · obtain ⟨y, hy⟩ : ∃ y, r[k]? = some y := ⟨_, List.getElem?_eq_getElem (by have := HRL.out; omega)⟩
          have hcl := (HB.out.cell (p := ⟨g, k + 1, none⟩) hg).trans (HCELL.out (k + 1) y (HXR.out k y hy))
          rw [Nat.add_comm k 1] at hcl
          unfold strV at hcl
          obtain ⟨Y, hY⟩ : ∃ Y : ByteArray, (⟨y.toArray⟩ : ByteArray) = Y := ⟨_, rfl⟩
          have hYd : Y.data.toList = y := by rw [← hY]
          rw [hY] at hcl
          have HST := Lib.hid (flat_go HW.out hy)
          rw [← hYd] at HST
          have hCl : C.length + 1 + Y.size ≤ R.length := by rw [← HST.out]; simp; omega
          have hCl2 : C.length + 1 ≤ R.length := by omega
          have CS := Lib.hid (ws w.heap.size w.heap.size C ⟨#[32]⟩ wr HA.out (by have : (⟨#[32]⟩ : ByteArray).size = 1 := rfl; omega) hsz)
          clear hY hYd hy
          go_wp2_with fail
          refine CS.out.mono ?_
          rintro e w3 ⟨rfl, hb3, hE3⟩
          have HB3 := Lib.hid (HB.out.trans hE3)
          have HA3 : Hid (Bld w.heap.size w.heap.size (C ++ [32]) w3) := Lib.hid hb3
          have hsz3 := HB3.out.size
          have CY := Lib.hid (ws w.heap.size w.heap.size (C ++ [32]) Y w3 HA3.out (by rw [List.length_append, List.length_singleton]; omega) hsz3)
          clear hE3 hb3 hcl
          go_wp2_with fail
          refine CY.out.mono ?_
          rintro e w4 ⟨rfl, hb4, hE4⟩
          have HB4 := Lib.hid (HB3.out.trans hE4)
          have HA4 := Lib.hid hb4
          clear hE4 hb4
          go_wp2_with fail
          have hkg := HKG2.out
          go_roundg (gk - 1)
          case rel => exact ⟨k + 1, _, by go_num, by omega, by omega, HST, HA4, HB4⟩
          case measure => omega
        · have hke : k = m := by omega
          have HE : Hid (C = R) := Lib.hid (by
            have h := HW.out
            rw [List.drop_eq_nil_iff.2 (by have := HRL.out; omega)] at h
            simpa using h)
          rw [HE.out] at HA
          subst hke
          go_wp2_with fail
          refine (Tryz.Builder_String_any _ _ R _ HA.out hsz).mono ?_
          rintro e w5 ⟨rfl, hE5⟩
          have HB5 := Lib.hid (HB.out.trans hE5)
          clear hE5
          go_wp2_with fail
          go_ret
          exact ⟨rfl, HB5.out⟩
set_option maxRecDepth 100000 in
set_option maxHeartbeats 1000000 in
theorem join_any (ls : List Bs) (v : Value) (base : Nat) (w : World) (hlv : LV w v base ls) (ht : totW ls ≤ 1099511627776) :
    Calls Tryz.prog 31 #[v, .string ⟨#[32]⟩] w fun e w' => e = .returned (.string ⟨(joinS ls).toArray⟩) ∧ Below w.heap.size w w' := by
  have none : ∀ a c, Calls Tryz.prog 31 #[.slice a 0 c, .string ⟨#[32]⟩] w fun e w' => e = .returned (.string ⟨#[]⟩) ∧ Below w.heap.size w w' := by
    intro a c
    go_enter Tryz.func31, Tryz.ntmps31
    go_wp2_with fail
    go_ret
    exact ⟨rfl, Below.refl _ _⟩
  rcases hlv with ⟨rfl, rfl⟩ | ⟨g, c, rfl, h1, h2, h3, h4, h5⟩
  · exact none _ _
  · match ls, h1, h5, ht with
    | [], _, _, _ => exact none _ _
    | [x], _, h5, _ =>
      have hc := h5 0 x rfl
      have e0 : joinS [x] = x := by simp [joinS]
      rw [e0]
      unfold strV at hc
      clear h5
      show Calls Tryz.prog 31 #[.slice (some ⟨g, 0, Option.none⟩) 1 c, .string ⟨#[32]⟩] w _
      go_enter Tryz.func31, Tryz.ntmps31
      go_wp2_with fail
      go_ret
      exact ⟨rfl, Below.refl _ _⟩
    | x :: y :: r, h1, h5, ht => exact join_many (x :: y :: r) g c w _ rfl (by simp) h1 h2 h4 h5 ht
end Go.Proofs.YtkcpbjoolfojjaaGreatDoor.joinW
namespace Go.Proofs.YtkcpbjoolfojjaaGreatDoor.dnames
open Go.RowKit Go.Proofs.YtkcpbjoolfojjaaGreatDoor.kit Go.Proofs.YtkcpbjoolfojjaaGreatDoor.nspec Go.Proofs.YtkcpbjoolfojjaaGreatDoor.rsplit Go.Proofs.YtkcpbjoolfojjaaGreatDoor.fld Go.Proofs.YtkcpbjoolfojjaaGreatDoor.formW Go.Proofs.YtkcpbjoolfojjaaGreatDoor.takes Go.Proofs.YtkcpbjoolfojjaaGreatDoor.hostT Go.Proofs.YtkcpbjoolfojjaaGreatDoor.splitD Go.Proofs.YtkcpbjoolfojjaaGreatDoor.dcheck Go.Proofs.YtkcpbjoolfojjaaGreatDoor.nread
set_option linter.unusedVariables false

theorem own_mono {w : World} {base b' : Nat} {e : TypeId} {v : Value} {n size : Nat} {xs : List Value} (h : w.ownsRow base e size v n xs) (hb : b' ≤ base) : w.ownsRow b' e size v n xs := by
  refine ⟨h.1, ?_⟩
  rcases h.2 with h1 | ⟨g, cap, cur, h1, h2, h3⟩
  · exact .inl h1
  · exact .inr ⟨g, cap, cur, h1, Nat.le_trans hb h2, h3⟩
/-- what stands, where it is right: the fields and their bytes -/
theorem parts_ok {t : Int} {d : Bs} {fs : List Fld} (hc : checkS t d = 0) (hf : formS t = some fs) : ∃ p, partsS t d = some p ∧ splitS fs d = some (p, []) ∧ d.length ≤ 65535 := by
  unfold checkS at hc
  split at hc
  · simp at hc
  · split at hc
    · simp at hc
    · rename_i h1 h2
      cases hp : partsS t d with
      | none => rw [hp] at hc; simp at hc
      | some p =>
        refine ⟨p, rfl, ?_, by omega⟩
        unfold partsS at hp
        rw [hf] at hp
        simp only at hp
        cases hs : splitS fs d with
        | none => rw [hs] at hp; simp at hp
        | some q =>
          obtain ⟨q1, q2⟩ := q
          rw [hs] at hp
          cases q2 with
          | nil => simpa using hp
          | cons x r => simp at hp
theorem parts_len : ∀ (fs : List Fld) (d : Bs) (p : List Bs) (r : Bs), splitS fs d = some (p, r) → p.length = fs.length ∧ ∀ x ∈ p, x.length ≤ d.length
  | [], d, p, r, h => by simp only [splitS, Option.some.injEq, Prod.mk.injEq] at h; rw [← h.1]; simp
  | f :: fs, d, p, r, h => by
    simp only [splitS] at h
    split at h
    · simp at h
    · cases hs : splitS fs (d.drop (takeS f d).toNat) with
      | none => rw [hs] at h; simp at h
      | some q =>
        rw [hs] at h
        simp only [Option.map_some, Option.some.injEq, Prod.mk.injEq] at h
        have ih := parts_len fs _ _ _ hs
        rw [← h.1]
        refine ⟨by simp [ih.1], fun x hx => ?_⟩
        rcases List.mem_cons.1 hx with rfl | hx
        · rw [List.length_take]; omega
        · have := ih.2 x hx; rw [List.length_drop] at this; omega
theorem check_len {t : Int} {d : Bs} (hc : checkS t d = 0) : d.length ≤ 65535 := by
  unfold checkS at hc
  split at hc
  · simp at hc
  · split at hc
    · simp at hc
    · omega
theorem asked (f : Fld) (w : World) : (Instr.typeAssert (fldV f) 54 84 true).run Tryz.prog w = .ok (.tuple #[.agg #[], .bool (isHost f)]) w := by
  cases f <;> kernel_rfl
set_option maxRecDepth 100000 in
theorem split_nil (s : ByteArray) (w : World) (hs : s.size ≤ 65535) :
    Calls Tryz.prog 30 #[.slice none 0 0, .string s] w fun e w' => ∃ b, e = .returned (.tuple #[.slice none 0 0, .bool b]) ∧ w = w' := by
  go_enter Tryz.func30, Tryz.ntmps30
  go_wp2_with fail
  go_loopg [1, 6, 12] 1 (fun gas dv pv kv wr => dv = .string s ∧ pv = .slice none 0 0 ∧ kv = .int .i64 0 ∧ 1 ≤ gas ∧ w = wr)
  case atStart => exact ⟨rfl, rfl, rfl, by omega, rfl⟩
  case round =>
    obtain ⟨rfl, rfl, rfl, hg, rfl⟩ := hrel
    go_wp2_with fail
    go_ret2
    exact ⟨_, rfl, rfl⟩

end Go.Proofs.YtkcpbjoolfojjaaGreatDoor.dnames
namespace Go.Proofs.YtkcpbjoolfojjaaGreatDoor.rnames
open Go.RowKit Go.Proofs.YtkcpbjoolfojjaaGreatDoor.kit Go.Proofs.YtkcpbjoolfojjaaGreatDoor.nspec Go.Proofs.YtkcpbjoolfojjaaGreatDoor.rsplit Go.Proofs.YtkcpbjoolfojjaaGreatDoor.fld Go.Proofs.YtkcpbjoolfojjaaGreatDoor.takes Go.Proofs.YtkcpbjoolfojjaaGreatDoor.hostT Go.Proofs.YtkcpbjoolfojjaaGreatDoor.splitD Go.Proofs.YtkcpbjoolfojjaaGreatDoor.rsize Go.Proofs.YtkcpbjoolfojjaaGreatDoor.rform Go.Proofs.YtkcpbjoolfojjaaGreatDoor.parts Go.Proofs.YtkcpbjoolfojjaaGreatDoor.checkData Go.Proofs.YtkcpbjoolfojjaaGreatDoor.dnames
set_option linter.unusedVariables false

end Go.Proofs.YtkcpbjoolfojjaaGreatDoor.rnames
namespace Go.Proofs.YtkcpbjoolfojjaaGreatDoor.wireP
open Go.RowKit Go.Proofs.YtkcpbjoolfojjaaGreatDoor.kit Go.Proofs.YtkcpbjoolfojjaaGreatDoor.takes Go.Proofs.YtkcpbjoolfojjaaGreatDoor.nspec Go.Proofs.YtkcpbjoolfojjaaGreatDoor.rsplit Go.Proofs.YtkcpbjoolfojjaaGreatDoor.check Go.Proofs.YtkcpbjoolfojjaaGreatDoor.fld
set_option linter.unusedVariables false

/-- a record -/
structure Rc where
  o : ByteArray
  t : Int
  c : Int
  l : Int
  d : ByteArray
def Rc.cells (x : Rc) : List Value := [.string x.o, .int .i64 x.t, .int .i64 x.c, .int .i64 x.l, .string x.d]
/-- a question -/
structure Qn where
  n : ByteArray
  t : Int
  c : Int
def Qn.cells (x : Qn) : List Value := [.string x.n, .int .i64 x.t, .int .i64 x.c]
end Go.Proofs.YtkcpbjoolfojjaaGreatDoor.wireP
