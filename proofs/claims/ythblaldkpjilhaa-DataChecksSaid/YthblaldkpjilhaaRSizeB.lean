/- How many bytes a name, a row of texts take: gazetteerref1.size: walk. -/
import Derived.Test.YthblaldkpjilhaaRSize
namespace Go.Proofs.Ythblaldkpjilhaa.rsizeB
open Go.RowKit Go.Proofs.Ythblaldkpjilhaa.kit Go.Proofs.Ythblaldkpjilhaa.nspec Go.Proofs.Ythblaldkpjilhaa.rsplit Go.Proofs.Ythblaldkpjilhaa.fld Go.Proofs.Ythblaldkpjilhaa.takes Go.Proofs.Ythblaldkpjilhaa.hostP Go.Proofs.Ythblaldkpjilhaa.hostT Go.Proofs.Ythblaldkpjilhaa.textsT Go.Proofs.Ythblaldkpjilhaa.rsize
set_option linter.unusedVariables false

set_option maxRecDepth 100000 in
set_option maxHeartbeats 2000000 in
theorem size_host (s : ByteArray) (w : World) (hs : s.size ≤ 65535) : Calls Try.prog 124 #[.int .u8 110, .string s] w (SaysSz .host s w) := by
  obtain ⟨R, HR⟩ : ∃ R, Hid (hostS s.data.toList = R) := ⟨_, Lib.hid rfl⟩
  have HT : Hid (takeS .host s.data.toList = R) := Lib.hid HR.out
  unfold SaysSz
  rw [HT.out]
  go_enter Try.func124, Try.ntmps124
  go_wp2_with fail
  go_loopg [5] 256 (fun gas kv wr => ∃ k : Nat, kv = .int .i64 k ∧ 1 ≤ k ∧ k ≤ 256 ∧ 257 ≤ k + gas ∧ Hid (∀ j, j < k → split (s.data.toList.take j) = none) ∧ Below w.heap.size w wr)
  case atStart => exact ⟨1, rfl, by omega, by omega, by omega, Lib.hid (fun j hj => by
    have : j = 0 := by omega
    subst this; rfl), Below.refl _ _⟩
  case round =>
    obtain ⟨k, rfl, hk1, hk2, hkg, HJ, hB⟩ := hrel
    have HKG := Lib.hid hkg; clear hkg
    have HB := Lib.hid hB; clear hB
    by_cases hle : k ≤ s.size
    · by_cases h255 : k ≤ 255
      · have hlei : (k : Int) ≤ (s.size : Int) := by omega
        have h255i : (k : Int) ≤ 255 := by omega
        have CK := Lib.hid (fun w => isName_any (s.extract 0 k) w (by rw [ByteArray.size_extract]; omega))
        rcases isB_or (s.extract 0 k) with ⟨ls, hN⟩ | hN
        · rw [isB_yes hN] at CK
          rw [ext0] at hN
          have HY := Lib.hid (host_some (by rw [size_len]; exact hle) hN (fun j l hj h => by have := HJ.out j hj; rw [split_iff.2 h] at this; simp at this))
          clear hN
          go_wp2_with fail
          refine (CK.out _).mono ?_
          rintro e w1 ⟨rfl, hB1⟩
          have HB1 := Lib.hid (HB.out.trans (hB1.mono HB.out.size)); clear hB1
          go_wp2_with fail
          go_ret
          exact ⟨by rw [← HR.out, HY.out]; rfl, HB1.out⟩
        · rw [isB_no hN] at CK
          rw [ext0] at hN
          have HJ2 : Hid (∀ j, j < k + 1 → split (s.data.toList.take j) = none) := Lib.hid (fun j hj => by
            rcases Nat.lt_or_ge j k with h | h
            · exact HJ.out j h
            · have : j = k := by omega
              subst this; exact hN)
          clear hN
          go_wp2_with fail
          refine (CK.out _).mono ?_
          rintro e w1 ⟨rfl, hB1⟩
          have HB1 := Lib.hid (HB.out.trans (hB1.mono HB.out.size)); clear hB1
          go_wp2_with fail
          have hkg := HKG.out
          go_roundg (gk - 1)
          case rel => exact ⟨k + 1, by go_num, by omega, by omega, by omega, HJ2, HB1.out⟩
          case measure => omega
      · have HY := Lib.hid (host_none (d := s.data.toList) (fun j l hj h => by
          rcases Nat.lt_or_ge j k with h1 | h1
          · have := HJ.out j h1; rw [split_iff.2 h] at this; simp at this
          · have := h.2.2; rw [List.length_take, size_len] at this; rw [size_len] at hj; omega))
        have hlei : (k : Int) ≤ (s.size : Int) := by omega
        have h255i : (255 : Int) < (k : Int) := by omega
        clear h255
        go_wp2_with fail
        go_ret
        exact ⟨by rw [← HR.out, HY.out]; rfl, HB.out⟩
    · have HY := Lib.hid (host_none (d := s.data.toList) (fun j l hj h => by
        rw [size_len] at hj
        have := HJ.out j (by omega); rw [split_iff.2 h] at this; simp at this))
      have hlei : (s.size : Int) < (k : Int) := by omega
      clear hle
      go_wp2_with fail
      go_ret
      exact ⟨by rw [← HR.out, HY.out]; rfl, HB.out⟩

set_option maxRecDepth 100000 in
set_option maxHeartbeats 2000000 in
theorem size_texts (s : ByteArray) (w : World) (hs : s.size ≤ 65535) : Calls Try.prog 124 #[.int .u8 84, .string s] w (SaysSz .texts s w) := by
  obtain ⟨R, HR⟩ : ∃ R, Hid (textsA 0 (s.data.toList.drop 0) = R) := ⟨_, Lib.hid rfl⟩
  have HT : Hid (takeS .texts s.data.toList = R) := Lib.hid HR.out
  unfold SaysSz
  rw [HT.out]
  go_enter Try.func124, Try.ntmps124
  go_wp2_with fail
  go_loopg [6, 7] (s.size + 1) (fun gas av _ wr => ∃ a : Nat, av = .int .i64 a ∧ a ≤ s.size ∧ s.size + 1 ≤ a + gas ∧ Hid (textsA a (s.data.toList.drop a) = R) ∧ Below w.heap.size w wr)
  case atStart => exact ⟨0, rfl, by omega, by omega, HR, Below.refl _ _⟩
  case round =>
    obtain ⟨a, rfl, ha, hgas, HS, hB⟩ := hrel
    have HG := Lib.hid hgas; clear hgas
    have HB := Lib.hid hB; clear hB
    by_cases hlt : a < s.size
    · obtain ⟨c, hc⟩ : ∃ c, s[a] = c := ⟨_, rfl⟩
      have hd := drop_cons s a hlt
      rw [hc] at hd
      have hl : (s.data.toList.drop (a + 1)).length = s.size - (a + 1) := by rw [List.length_drop, size_len]
      have CT := Lib.hid (fun w => size_text (s.extract a s.size) w (by rw [ByteArray.size_extract]; omega))
      unfold SaysSz at CT
      simp only [takeS] at CT
      rw [ext_end, hd] at CT
      have h1 : (a : Int) ≤ (s.size : Int) := by omega
      by_cases h2 : (s.data.toList.drop (a + 1)).length < c.toNat
      · have e1 : textS (c :: s.data.toList.drop (a + 1)) = -1 := by simp only [textS]; rw [if_pos h2]
        have HN : Hid (-1 = R) := Lib.hid (by rw [← HS.out, hd, texts_bad h2])
        rw [e1] at CT
        clear e1 h2 hd hl
        go_wp2_with fail
        refine (CT.out _).mono ?_
        rintro e w1 ⟨rfl, hB1⟩
        have HB1 := Lib.hid (HB.out.trans (hB1.mono HB.out.size)); clear hB1
        go_wp2_with fail
        go_ret
        exact ⟨by rw [← HN.out]; rfl, HB1.out⟩
      · have e1 : textS (c :: s.data.toList.drop (a + 1)) = ((1 + c.toNat : Nat) : Int) := by simp only [textS]; rw [if_neg h2]; simp
        obtain ⟨n, hn⟩ : ∃ n, 1 + c.toNat = n := ⟨_, rfl⟩
        have hns : a + n ≤ s.size := by omega
        have HN : Hid (textsA (a + n) (s.data.toList.drop (a + n)) = R) := Lib.hid (by
          rw [← HS.out, hd, texts_go (by omega), List.drop_drop, hn, show a + 1 + c.toNat = a + n by omega])
        rw [e1, hn] at CT
        have hn1 : 1 ≤ n := by omega
        clear e1 h2 hd hl hn
        go_wp2_with fail
        refine (CT.out _).mono ?_
        rintro e w1 ⟨rfl, hB1⟩
        have HB1 := Lib.hid (HB.out.trans (hB1.mono HB.out.size)); clear hB1
        go_wp2_with fail
        have hgas := HG.out
        go_roundg (gk - 1)
        case rel => exact ⟨a + n, by go_num, by omega, by omega, HN, HB1.out⟩
        case measure => omega
    · have hae : a = s.size := by omega
      subst hae
      have HN : Hid ((if s.size = 0 then -1 else (s.size : Int)) = R) := Lib.hid (by rw [← HS.out, drop_end s s.size (Nat.le_refl _), texts_end])
      clear hlt
      by_cases h0 : s.size = 0
      · have hz : ((s.size : Int) == 0) = true := by rw [beq_iff_eq]; omega
        rw [if_pos h0] at HN
        have H0 := Lib.hid h0; clear h0
        go_wp2_with fail
        go_ret
        exact ⟨by rw [← HN.out]; rfl, HB.out⟩
      · have hz : ((s.size : Int) == 0) = false := by rw [beq_eq_false_iff_ne]; omega
        rw [if_neg h0] at HN
        clear h0
        go_wp2_with fail
        go_ret
        exact ⟨by rw [← HN.out]; rfl, HB.out⟩

/-- of every field that a form can have -/
theorem size_any (f : Fld) (s : ByteArray) (w : World) (hs : s.size ≤ 65535) (hf : ∀ k, f = .num k → k = 1 ∨ k = 2 ∨ k = 4) : Calls Try.prog 124 #[.int .u8 (letterOf f : Nat), .string s] w (SaysSz f s w) := by
  cases f with
  | num k =>
    rcases hf k rfl with h | h | h <;> subst h
    · exact size_1 s w hs
    · exact size_2 s w hs
    · exact size_4 s w hs
  | ip4 => exact size_ip4 s w hs
  | ip6 => exact size_ip6 s w hs
  | host => exact size_host s w hs
  | text => exact size_text s w hs
  | texts => exact size_texts s w hs
  | tail => exact size_tail s w hs
  | hexes => exact size_hexes s w hs
  | b64 => exact size_b64 s w hs
  | kind => exact size_kind s w hs
  | kinds => exact size_kinds s w hs
  | salt => exact size_salt s w hs
  | hash => exact size_hash s w hs
end Go.Proofs.Ythblaldkpjilhaa.rsizeB
