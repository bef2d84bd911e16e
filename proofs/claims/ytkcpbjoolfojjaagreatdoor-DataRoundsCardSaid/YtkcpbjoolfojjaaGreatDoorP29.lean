/- data.hex, data.quoted: walks. gazetteerref1.Hex, Base64, Quote, rows6: walks. gazetteerref1.rows6: walk. -/
import Derived.Test.YtkcpbjoolfojjaaGreatDoorP22
import Derived.Test.YtkcpbjoolfojjaaGreatDoorP7
import Derived.Test.YtkcpbjoolfojjaaGreatDoorP9
import Derived.Test.YtkcpbjoolfojjaaGreatDoorP24
import Derived.Laws.BitsLemmas
namespace Go.Proofs.YtkcpbjoolfojjaaGreatDoor.dshowA
open Go.RowKit Go.Proofs.YtkcpbjoolfojjaaGreatDoor.kit Go.Proofs.YtkcpbjoolfojjaaGreatDoor.nspec Go.Proofs.YtkcpbjoolfojjaaGreatDoor.bits Go.Proofs.YtkcpbjoolfojjaaGreatDoor.bld Go.Proofs.YtkcpbjoolfojjaaGreatDoor.dshow Go.Proofs.YtkcpbjoolfojjaaGreatDoor.showA Go.Proofs.YtkcpbjoolfojjaaGreatDoor.rsplit
set_option linter.unusedVariables false

theorem wbi (B b : Nat) (l : List UInt8) (c : UInt8) (z : Int) (hz : z = (c.toNat : Int)) (w : World) (h : Bld B b l w) (hlen : l.length + 1 ≤ 140737488355328) (hBw : B ≤ w.heap.size) :
    Calls Tryz.prog 58 #[.pointer (some ⟨b, 0, none⟩), .int .u8 z] w fun e w' => e = .returned .nilIface ∧ Bld B b (l ++ [c]) w' ∧ Below B w w' := by
  subst hz; exact wb B b l c w h hlen hBw
theorem wraps8 (n : Int) (h₀ : 0 ≤ n) (h₁ : n < 2 ^ 8) : IntKind.u8.wrap n = n := by rw [IntKind.wrap_u8]; omega
theorem and15 {x : Int} (h₀ : 0 ≤ x) (h₁ : x < 256) : bits .and .u8 x 15 = x % 16 := bits_mask .u8 8 (by decide) wraps8 4 (by decide) x h₀ h₁
theorem idx16 (v : Nat) (h : v < 16) : Value.int .u8 (((⟨#[48, 49, 50, 51, 52, 53, 54, 55, 56, 57, 97, 98, 99, 100, 101, 102]⟩ : ByteArray)[v]'h).toNat : Int) = Value.int .u8 ((set16.getD v 0).toNat : Int) := by
  rw [← getD_at]; rfl
theorem hex_go {A R : Bs} {s : ByteArray} {k : Nat} (h : A ++ hexS (s.data.toList.drop k) = R) (hk : k < s.size) : ((A ++ [set16.getD (s[k].toNat / 16) 0]) ++ [set16.getD (s[k].toNat % 16) 0]) ++ hexS (s.data.toList.drop (k + 1)) = R := by
  rw [drop_cons s k hk, hex_step] at h
  rw [← h]; simp
theorem hex_end {A R : Bs} {s : ByteArray} {k : Nat} (h : A ++ hexS (s.data.toList.drop k) = R) (hk : s.size ≤ k) : A = R := by
  rw [drop_end s k hk, hex_nil] at h; simpa using h

set_option maxRecDepth 100000 in
set_option maxHeartbeats 2400000 in
theorem hex_any (s : ByteArray) (w : World) (hs : s.size ≤ 1099511627776) :
    Calls Tryz.prog 29 #[.string s] w fun e w' => e = .returned (.string ⟨(hexS s.data.toList).toArray⟩) ∧ Below w.heap.size w w' := by
  obtain ⟨R, HR⟩ : ∃ R, Hid ([] ++ hexS (s.data.toList.drop 0) = R) := ⟨_, Lib.hid rfl⟩
  have HR0 : Hid (hexS s.data.toList = R) := Lib.hid (by rw [← HR.out]; rfl)
  have hRl : R.length ≤ 2199023255552 := by
    have h1 := hex_len s.data.toList
    rw [HR0.out, size_len] at h1; omega
  rw [HR0.out]
  have hfb := Lib.hid (Lib.fresh_isBuilder 52 5 w)
  have hBa := Lib.hid ((Below.refl w.heap.size w).alloc (Nat.le_refl _) (.cells #[.pointer none, .slice none 0 0] 52))
  go_enter Tryz.func29, Tryz.ntmps29
  go_wp2
  go_loopg [7] (s.size + 1) (fun gas kv wr => ∃ (k : Nat) (A : Bs), kv = .int .i64 k ∧ k ≤ s.size ∧ k + gas = s.size + 1 ∧ Hid (A ++ hexS (s.data.toList.drop k) = R) ∧ Hid (Bld w.heap.size w.heap.size A wr) ∧ Hid (Below w.heap.size w wr))
  case atStart => exact ⟨0, [], rfl, by omega, by omega, HR, hfb, hBa⟩
  case round =>
    obtain ⟨k, A, rfl, hk, hkg, HW, HA, HB⟩ := hrel
    have HK := Lib.hid hkg; clear hkg
    have hsz := HB.out.size
    by_cases hlt : k < s.size
    · have HST := Lib.hid (hex_go HW.out hlt)
      obtain ⟨c, hc⟩ : ∃ c, s[k] = c := ⟨_, rfl⟩
      rw [hc] at HST
      have hc256 := byte_lt c
      obtain ⟨v1, hv1⟩ : ∃ v : Nat, c.toNat / 16 = v := ⟨_, rfl⟩
      obtain ⟨v2, hv2⟩ : ∃ v : Nat, c.toNat % 16 = v := ⟨_, rfl⟩
      rw [hv1, hv2] at HST
      have hv1l : v1 < 16 := by have := c.toNat_lt; omega
      have hv2l : v2 < 16 := by omega
      have hAl : A.length + 2 ≤ R.length := by rw [← HST.out]; simp
      have HWB := Lib.hid (wb w.heap.size w.heap.size A (set16.getD v1 0) wr HA.out (by omega) hsz)
      have hx1 := idx16 v1 hv1l
      have hx2 := idx16 v2 hv2l
      have hsh := congrArg (Value.int .u8) (show (c.toNat : Int) / 16 = (v1 : Int) by omega)
      have hand := congrArg (Value.int .u8) (show bits .and .u8 (c.toNat : Int) 15 = (v2 : Int) by rw [and15 (by omega) hc256]; omega)
      clear hv1 hv2
      go_wp2_with fail
      refine HWB.out.mono ?_
      rintro e w1 ⟨rfl, hb1, hE1⟩
      have HB1 := Lib.hid (HB.out.trans hE1)
      have HWC := Lib.hid (wb w.heap.size w.heap.size (A ++ [set16.getD v1 0]) (set16.getD v2 0) w1 hb1 (by simp; omega) (by have := HB1.out.size; omega))
      clear hE1 hb1
      go_wp2_with fail
      refine HWC.out.mono ?_
      rintro e w2 ⟨rfl, hb2, hE2⟩
      clear hand hsh hx1 hx2
      have hkg := HK.out
      go_wp2_with fail
      go_roundg (gk - 1)
      case rel => exact ⟨k + 1, _, by go_num, by omega, by omega, HST, Lib.hid hb2, Lib.hid (HB1.out.trans hE2)⟩
      case measure => omega
    · have HN := Lib.hid (hex_end HW.out (by omega))
      rw [HN.out] at HA
      go_wp2_with fail
      refine (Tryz.Builder_String_any _ _ R _ HA.out (by omega)).mono ?_
      rintro e v2 ⟨rfl, hE2⟩
      go_wp2
      go_ret
      exact ⟨rfl, HB.out.trans hE2⟩

theorem quote_go {A R T : Bs} {s : ByteArray} {k : Nat} {c : UInt8} (h : A ++ ((s.data.toList.drop k).flatMap quoteB ++ T) = R) (hk : k < s.size) (hc : s[k] = c) : (A ++ quoteB c) ++ ((s.data.toList.drop (k + 1)).flatMap quoteB ++ T) = R := by
  rw [drop_cons s k hk, hc] at h
  rw [← h]; simp
theorem quote_end {A R T : Bs} {s : ByteArray} {k : Nat} (h : A ++ ((s.data.toList.drop k).flatMap quoteB ++ T) = R) (hk : s.size ≤ k) : A ++ T = R := by
  rw [drop_end s k hk] at h; simpa using h
theorem quote_cases (c : UInt8) : (((c.toNat : Int) = 34 ∨ (c.toNat : Int) = 92) ∧ quoteB c = [92, c]) ∨ ((c.toNat : Int) ≠ 34 ∧ (c.toNat : Int) ≠ 92 ∧ ((c.toNat : Int) < 32 ∨ 126 < (c.toNat : Int)) ∧ quoteB c = 92 :: escL c) ∨ ((c.toNat : Int) ≠ 34 ∧ (c.toNat : Int) ≠ 92 ∧ 32 ≤ (c.toNat : Int) ∧ (c.toNat : Int) ≤ 126 ∧ quoteB c = [c]) := by
  have e34 : c = 34 ↔ (c.toNat : Int) = 34 := ⟨fun h => by rw [h]; rfl, fun h => UInt8.toNat.inj (by show c.toNat = 34; omega)⟩
  have e92 : c = 92 ↔ (c.toNat : Int) = 92 := ⟨fun h => by rw [h]; rfl, fun h => UInt8.toNat.inj (by show c.toNat = 92; omega)⟩
  unfold quoteB
  by_cases h : c = 34 ∨ c = 92
  · refine .inl ⟨?_, by rw [if_pos h]⟩
    rcases h with h | h
    · exact .inl (e34.1 h)
    · exact .inr (e92.1 h)
  · have h1 : (c.toNat : Int) ≠ 34 := fun x => h (.inl (e34.2 x))
    have h2 : (c.toNat : Int) ≠ 92 := fun x => h (.inr (e92.2 x))
    rw [if_neg h]
    by_cases h3 : c.toNat < 32 ∨ 126 < c.toNat
    · exact .inr (.inl ⟨h1, h2, by omega, by rw [if_pos h3]⟩)
    · exact .inr (.inr ⟨h1, h2, by omega, by omega, by rw [if_neg h3]⟩)

set_option maxRecDepth 100000 in
set_option maxHeartbeats 4000000 in
theorem quoted_any (s : ByteArray) (w : World) (hs : s.size ≤ 1099511627776) :
    Calls Tryz.prog 155 #[.string s] w fun e w' => e = .returned (.string ⟨(quoteS s.data.toList).toArray⟩) ∧ Below w.heap.size w w' := by
  obtain ⟨R, HR⟩ : ∃ R, Hid ([34] ++ ((s.data.toList.drop 0).flatMap quoteB ++ [34]) = R) := ⟨_, Lib.hid rfl⟩
  have HR0 : Hid (quoteS s.data.toList = R) := Lib.hid (by rw [← HR.out]; rfl)
  have hRl : R.length ≤ 8796093022208 := by
    have h1 := quoteS_len s.data.toList
    rw [HR0.out, size_len] at h1; omega
  rw [HR0.out]
  have hfb := Lib.fresh_isBuilder 52 5 w
  have hBa := Lib.hid ((Below.refl w.heap.size w).alloc (Nat.le_refl _) (.cells #[.pointer none, .slice none 0 0] 52))
  have HW0 := Lib.hid (wbi w.heap.size w.heap.size [] 34 34 rfl _ hfb (by simp) hBa.out.size)
  clear hfb
  go_enter Tryz.func155, Tryz.ntmps155
  go_wp2_with fail
  refine HW0.out.mono ?_
  rintro e w0 ⟨rfl, hb0, hE0⟩
  have HB0 := Lib.hid (hBa.out.trans hE0)
  have HA0 : Hid (Bld w.heap.size w.heap.size [34] w0) := Lib.hid hb0
  clear hE0 hb0
  go_wp2_with fail
  go_loopg [9] (s.size + 1) (fun gas kv wr => ∃ (k : Nat) (A : Bs), kv = .int .i64 k ∧ k ≤ s.size ∧ k + gas = s.size + 1 ∧ Hid (A ++ ((s.data.toList.drop k).flatMap quoteB ++ [34]) = R) ∧ Hid (Bld w.heap.size w.heap.size A wr) ∧ Hid (Below w.heap.size w wr))
  case atStart => exact ⟨0, [34], rfl, by omega, by omega, HR, HA0, HB0⟩
  case round =>
    clear HA0 HB0
    obtain ⟨k, A, rfl, hk, hkg, HW, HA, HB⟩ := hrel
    have HK := Lib.hid hkg; clear hkg
    have hsz := HB.out.size
    by_cases hlt : k < s.size
    · obtain ⟨c, hc⟩ : ∃ c, s[k] = c := ⟨_, rfl⟩
      have HST := Lib.hid (quote_go HW.out hlt hc)
      have hAR : A.length + (quoteB c).length + 1 ≤ R.length := by rw [← HST.out]; simp; omega
      have hc256 := byte_lt c
      have hc0 : 0 ≤ (c.toNat : Int) := by omega
      rcases quote_cases c with ⟨hq, he⟩ | ⟨hq1, hq2, hq3, he⟩ | ⟨hq1, hq2, hq3, hq4, he⟩
      · rw [he] at HST hAR; clear he
        have hAl : A.length + 3 ≤ R.length := hAR
        clear hAR
        by_cases hq1 : (c.toNat : Int) = 34
        · have b1 : ((c.toNat : Int) == 34) = true := by rw [beq_iff_eq]; exact hq1
          clear hq hq1
          have HW0 := Lib.hid (wbi w.heap.size w.heap.size (A) (92) (92) rfl wr HA.out (by omega) (by have := HB.out.size; omega))
          go_wp2_with fail
          refine HW0.out.mono ?_
          rintro e u0 ⟨rfl, hb0, hE0⟩
          have HB0 := Lib.hid (HB.out.trans hE0)
          clear hE0
          have HW1 := Lib.hid (wbi w.heap.size w.heap.size (A ++ [92]) (c) ((c.toNat : Int)) rfl u0 hb0 (by simp; omega) (by have := HB0.out.size; omega))
          clear hb0
          go_wp2_with fail
          refine HW1.out.mono ?_
          rintro e u1 ⟨rfl, hb1, hE1⟩
          have HB1 := Lib.hid (HB0.out.trans hE1)
          clear hE1
          have hkg := HK.out
          go_wp2_with fail
          go_roundg (gk - 1)
          case rel => exact ⟨k + 1, A ++ [92] ++ [c], by go_num, by omega, by omega, Lib.hid (by have h := HST.out; simpa [escL] using h), Lib.hid hb1, HB1⟩
          case measure => omega
        · have b1 : ((c.toNat : Int) == 34) = false := by rw [beq_eq_false_iff_ne]; exact hq1
          have b2 : ((c.toNat : Int) == 92) = true := by rw [beq_iff_eq]; omega
          clear hq hq1
          have HW0 := Lib.hid (wbi w.heap.size w.heap.size (A) (92) (92) rfl wr HA.out (by omega) (by have := HB.out.size; omega))
          go_wp2_with fail
          refine HW0.out.mono ?_
          rintro e u0 ⟨rfl, hb0, hE0⟩
          have HB0 := Lib.hid (HB.out.trans hE0)
          clear hE0
          have HW1 := Lib.hid (wbi w.heap.size w.heap.size (A ++ [92]) (c) ((c.toNat : Int)) rfl u0 hb0 (by simp; omega) (by have := HB0.out.size; omega))
          clear hb0
          go_wp2_with fail
          refine HW1.out.mono ?_
          rintro e u1 ⟨rfl, hb1, hE1⟩
          have HB1 := Lib.hid (HB0.out.trans hE1)
          clear hE1
          have hkg := HK.out
          go_wp2_with fail
          go_roundg (gk - 1)
          case rel => exact ⟨k + 1, A ++ [92] ++ [c], by go_num, by omega, by omega, Lib.hid (by have h := HST.out; simpa [escL] using h), Lib.hid hb1, HB1⟩
          case measure => omega
      · rw [he] at HST hAR; clear he
        have hAl : A.length + 5 ≤ R.length := hAR
        clear hAR
        have b1 : ((c.toNat : Int) == 34) = false := by rw [beq_eq_false_iff_ne]; exact hq1
        have b2 : ((c.toNat : Int) == 92) = false := by rw [beq_eq_false_iff_ne]; exact hq2
        clear hq1 hq2
        by_cases hq4 : (c.toNat : Int) < 32
        · clear hq3
          have HW0 := Lib.hid (wbi w.heap.size w.heap.size (A) (92) (92) rfl wr HA.out (by omega) (by have := HB.out.size; omega))
          go_wp2_with fail
          refine HW0.out.mono ?_
          rintro e u0 ⟨rfl, hb0, hE0⟩
          have HB0 := Lib.hid (HB.out.trans hE0)
          clear hE0
          have HW1 := Lib.hid (wbi w.heap.size w.heap.size (A ++ [92]) (48 + c / 100) (48 + (c.toNat : Int) / 100) (dig c).1.symm u0 hb0 (by simp; omega) (by have := HB0.out.size; omega))
          clear hb0
          go_wp2_with fail
          refine HW1.out.mono ?_
          rintro e u1 ⟨rfl, hb1, hE1⟩
          have HB1 := Lib.hid (HB0.out.trans hE1)
          clear hE1
          have HW2 := Lib.hid (wbi w.heap.size w.heap.size (A ++ [92] ++ [48 + c / 100]) (48 + c / 10 % 10) (48 + (c.toNat : Int) / 10 % 10) (dig c).2.1.symm u1 hb1 (by simp; omega) (by have := HB1.out.size; omega))
          clear hb1
          go_wp2_with fail
          refine HW2.out.mono ?_
          rintro e u2 ⟨rfl, hb2, hE2⟩
          have HB2 := Lib.hid (HB1.out.trans hE2)
          clear hE2
          have HW3 := Lib.hid (wbi w.heap.size w.heap.size (A ++ [92] ++ [48 + c / 100] ++ [48 + c / 10 % 10]) (48 + c % 10) (48 + (c.toNat : Int) % 10) (dig c).2.2.symm u2 hb2 (by simp; omega) (by have := HB2.out.size; omega))
          clear hb2
          go_wp2_with fail
          refine HW3.out.mono ?_
          rintro e u3 ⟨rfl, hb3, hE3⟩
          have HB3 := Lib.hid (HB2.out.trans hE3)
          clear hE3
          have hkg := HK.out
          go_wp2_with fail
          go_roundg (gk - 1)
          case rel => exact ⟨k + 1, A ++ [92] ++ [48 + c / 100] ++ [48 + c / 10 % 10] ++ [48 + c % 10], by go_num, by omega, by omega, Lib.hid (by have h := HST.out; simpa [escL] using h), Lib.hid hb3, HB3⟩
          case measure => omega
        · have hq5 : 126 < (c.toNat : Int) := by omega
          clear hq3
          have HW0 := Lib.hid (wbi w.heap.size w.heap.size (A) (92) (92) rfl wr HA.out (by omega) (by have := HB.out.size; omega))
          go_wp2_with fail
          refine HW0.out.mono ?_
          rintro e u0 ⟨rfl, hb0, hE0⟩
          have HB0 := Lib.hid (HB.out.trans hE0)
          clear hE0
          have HW1 := Lib.hid (wbi w.heap.size w.heap.size (A ++ [92]) (48 + c / 100) (48 + (c.toNat : Int) / 100) (dig c).1.symm u0 hb0 (by simp; omega) (by have := HB0.out.size; omega))
          clear hb0
          go_wp2_with fail
          refine HW1.out.mono ?_
          rintro e u1 ⟨rfl, hb1, hE1⟩
          have HB1 := Lib.hid (HB0.out.trans hE1)
          clear hE1
          have HW2 := Lib.hid (wbi w.heap.size w.heap.size (A ++ [92] ++ [48 + c / 100]) (48 + c / 10 % 10) (48 + (c.toNat : Int) / 10 % 10) (dig c).2.1.symm u1 hb1 (by simp; omega) (by have := HB1.out.size; omega))
          clear hb1
          go_wp2_with fail
          refine HW2.out.mono ?_
          rintro e u2 ⟨rfl, hb2, hE2⟩
          have HB2 := Lib.hid (HB1.out.trans hE2)
          clear hE2
          have HW3 := Lib.hid (wbi w.heap.size w.heap.size (A ++ [92] ++ [48 + c / 100] ++ [48 + c / 10 % 10]) (48 + c % 10) (48 + (c.toNat : Int) % 10) (dig c).2.2.symm u2 hb2 (by simp; omega) (by have := HB2.out.size; omega))
          clear hb2
          go_wp2_with fail
          refine HW3.out.mono ?_
          rintro e u3 ⟨rfl, hb3, hE3⟩
          have HB3 := Lib.hid (HB2.out.trans hE3)
          clear hE3
          have hkg := HK.out
          go_wp2_with fail
          go_roundg (gk - 1)
          case rel => exact ⟨k + 1, A ++ [92] ++ [48 + c / 100] ++ [48 + c / 10 % 10] ++ [48 + c % 10], by go_num, by omega, by omega, Lib.hid (by have h := HST.out; simpa [escL] using h), Lib.hid hb3, HB3⟩
          case measure => omega
      · rw [he] at HST hAR; clear he
        have hAl : A.length + 2 ≤ R.length := hAR
        clear hAR
        have b1 : ((c.toNat : Int) == 34) = false := by rw [beq_eq_false_iff_ne]; exact hq1
        have b2 : ((c.toNat : Int) == 92) = false := by rw [beq_eq_false_iff_ne]; exact hq2
        clear hq1 hq2
        have HW0 := Lib.hid (wbi w.heap.size w.heap.size (A) (c) ((c.toNat : Int)) rfl wr HA.out (by omega) (by have := HB.out.size; omega))
        go_wp2_with fail
        refine HW0.out.mono ?_
        rintro e u0 ⟨rfl, hb0, hE0⟩
        have HB0 := Lib.hid (HB.out.trans hE0)
        clear hE0
        have hkg := HK.out
        go_wp2_with fail
        go_roundg (gk - 1)
        case rel => exact ⟨k + 1, A ++ [c], by go_num, by omega, by omega, Lib.hid (by have h := HST.out; simpa [escL] using h), Lib.hid hb0, HB0⟩
        case measure => omega
    · have HN := Lib.hid (quote_end HW.out (by omega))
      have hAl : A.length + 1 ≤ R.length := by rw [← HN.out]; simp
      have HSTEP := Lib.hid (wbi w.heap.size w.heap.size A 34 34 rfl wr HA.out (by omega) hsz)
      go_wp2_with fail
      refine HSTEP.out.mono ?_
      rintro e w1 ⟨rfl, hb1, hE1⟩
      rw [HN.out] at hb1
      have HB1 := Lib.hid (HB.out.trans hE1)
      clear hE1
      go_wp2_with fail
      refine (Tryz.Builder_String_any _ _ R _ hb1 (by have := HB1.out.size; omega)).mono ?_
      rintro e v2 ⟨rfl, hE2⟩
      go_wp2
      go_ret
      exact ⟨rfl, HB1.out.trans hE2⟩
end Go.Proofs.YtkcpbjoolfojjaaGreatDoor.dshowA
namespace Go.Proofs.YtkcpbjoolfojjaaGreatDoor.rshowA
open Go.RowKit Go.Proofs.YtkcpbjoolfojjaaGreatDoor.kit Go.Proofs.YtkcpbjoolfojjaaGreatDoor.nspec Go.Proofs.YtkcpbjoolfojjaaGreatDoor.bits Go.Proofs.YtkcpbjoolfojjaaGreatDoor.dshow Go.Proofs.YtkcpbjoolfojjaaGreatDoor.showA Go.Proofs.YtkcpbjoolfojjaaGreatDoor.showB Go.Proofs.YtkcpbjoolfojjaaGreatDoor.ints Go.Proofs.YtkcpbjoolfojjaaGreatDoor.coded Go.Proofs.YtkcpbjoolfojjaaGreatDoor.dshowA
set_option linter.unusedVariables false

end Go.Proofs.YtkcpbjoolfojjaaGreatDoor.rshowA
namespace Go.Proofs.YtkcpbjoolfojjaaGreatDoor.rrows6
open Go.RowKit Go.Proofs.YtkcpbjoolfojjaaGreatDoor.kit Go.Proofs.YtkcpbjoolfojjaaGreatDoor.nspec Go.Proofs.YtkcpbjoolfojjaaGreatDoor.bits Go.Proofs.YtkcpbjoolfojjaaGreatDoor.dshow Go.Proofs.YtkcpbjoolfojjaaGreatDoor.rshowA Go.Proofs.YtkcpbjoolfojjaaGreatDoor.textsT
set_option linter.unusedVariables false

end Go.Proofs.YtkcpbjoolfojjaaGreatDoor.rrows6
