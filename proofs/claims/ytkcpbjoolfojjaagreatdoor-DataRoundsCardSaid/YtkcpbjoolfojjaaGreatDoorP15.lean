/- data.unhex, data.words.loose: walks. data.From32: walk. A region that draws its order: loads taken first though the region's last operations write their cells. -/
import Derived.Test.YtkcpbjoolfojjaaGreatDoorP14
import Derived.Test.YtkcpbjoolfojjaaGreatDoorP12
import Derived.Test.YtkcpbjoolfojjaaGreatDoorP2
import Derived.Test.YtkcpbjoolfojjaaGreatDoorP8
import Derived.Test.YtkcpbjoolfojjaaGreatDoorP1
import Derived.StillTailTactics
import Derived.StillTail
import Derived.Deep.QuietTactic
import Derived.BigQuiet
import Derived.Deep.RegionHeld3
namespace Go.Proofs.YtkcpbjoolfojjaaGreatDoor.wdC
open Go.RowKit Go.Proofs.YtkcpbjoolfojjaaGreatDoor.kit Go.Proofs.YtkcpbjoolfojjaaGreatDoor.nspec Go.Proofs.YtkcpbjoolfojjaaGreatDoor.fld Go.Proofs.YtkcpbjoolfojjaaGreatDoor.bits Go.Proofs.YtkcpbjoolfojjaaGreatDoor.bld Go.Proofs.YtkcpbjoolfojjaaGreatDoor.rdP Go.Proofs.YtkcpbjoolfojjaaGreatDoor.rdQ Go.Proofs.YtkcpbjoolfojjaaGreatDoor.wd Go.Proofs.YtkcpbjoolfojjaaGreatDoor.wdA Go.Proofs.YtkcpbjoolfojjaaGreatDoor.wdB
set_option linter.unusedVariables false

theorem wbi (B b : Nat) (l : List UInt8) (c : UInt8) (z : Int) (hz : z = (c.toNat : Int)) (w : World) (h : Bld B b l w) (hlen : l.length + 1 ≤ 140737488355328) (hBw : B ≤ w.heap.size) :
    Calls Tryz.prog 58 #[.pointer (some ⟨b, 0, none⟩), .int .u8 z] w fun e w' => e = .returned .nilIface ∧ Bld B b (l ++ [c]) w' ∧ Below B w w' := by
  subst hz; exact wb B b l c w h hlen hBw
theorem wraps31 (n : Int) (h₀ : 0 ≤ n) (h₁ : n < 2 ^ 31) : IntKind.i64.wrap n = n := by rw [IntKind.wrap_i64]; omega
theorem or4 {x y : Int} (hx₀ : 0 ≤ x) (hx : x % 16 = 0) (hx₁ : x < 2147483648) (h₀ : 0 ≤ y) (h₁ : y < 16) : bits .or .i64 x y = x + y :=
  bits_join .i64 31 (by decide) wraps31 4 x y hx₀ hx hx₁ h₀ h₁ (by omega)
theorem pairs_len : ∀ (s d : Bs), pairsS s = some d → d.length ≤ s.length
  | [], d, h => by simp [pairsS] at h; subst h; simp
  | [a], d, h => by simp [pairsS] at h
  | a :: b :: r, d, h => by
    rw [pairsS] at h
    cases ha : val16 a with
    | none => rw [ha] at h; simp at h
    | some x =>
      cases hb : val16 b with
      | none => rw [ha, hb] at h; simp at h
      | some y =>
        rw [ha, hb] at h
        simp only at h
        obtain ⟨u, hu, rfl⟩ := Option.map_eq_some_iff.1 h
        have := pairs_len r u hu
        simp only [List.length_cons]; omega
def two2 (o : Option Bs) : Ending := match o with
  | none => .returned (.tuple #[.string ⟨#[]⟩, .bool false])
  | some d => .returned (.tuple #[.string ⟨d.toArray⟩, .bool true])
theorem nibble_is (c : UInt8) (w : World) : Calls Tryz.prog 68 #[.int .u8 (c.toNat : Int)] w fun e w' => e = .returned (.int .i64 (nibI c)) ∧ w = w' := (nibble_any c w).mono fun e w' h => ⟨h.1, h.2.symm⟩
set_option maxRecDepth 100000 in
set_option maxHeartbeats 1600000 in
theorem unhex_any (s : ByteArray) (w : World) (hs : s.size ≤ 1099511627776) :
    Calls Tryz.prog 41 #[.string s] w fun e w' => e = two2 (unhexS s.data.toList) ∧ Below w.heap.size w w' := by
  obtain ⟨R, HR⟩ : ∃ R, Hid ((pairsS (s.data.toList.drop 0)).map ([] ++ ·) = R) := ⟨_, Lib.hid rfl⟩
  have HR0 : Hid (unhexS s.data.toList = R) := Lib.hid (by
    rw [unhex_pairs, ← HR.out, List.drop_zero]
    cases pairsS s.data.toList <;> simp)
  have HLEN : Hid (∀ d, R = some d → d.length ≤ 1099511627776) := Lib.hid (fun d hd => by
    have h1 := HR0.out.trans hd
    rw [unhex_pairs] at h1
    have h2 := pairs_len _ _ h1
    rw [size_len] at h2; omega)
  rw [HR0.out]
  have HFB := Lib.hid (Lib.fresh_isBuilder 52 5 w)
  have HBA := Lib.hid ((Below.refl w.heap.size w).alloc (Nat.le_refl _) (.cells #[.pointer none, .slice none 0 0] 52))
  go_enter Tryz.func41, Tryz.ntmps41
  go_wp2_with fail
  go_loopg [5] (s.size + 1) (fun gas kv wr => ∃ (k : Nat) (A : Bs), kv = .int .i64 (k : Int) ∧ k ≤ s.size ∧ s.size < k + gas ∧ A.length ≤ k ∧ Hid ((pairsS (s.data.toList.drop k)).map (A ++ ·) = R) ∧ Hid (Bld w.heap.size w.heap.size A wr) ∧ Hid (Below w.heap.size w wr))
  case atStart => exact ⟨0, [], rfl, by omega, by omega, by simp, HR, HFB, HBA⟩
  case round =>
    clear HFB HBA
    obtain ⟨k, A, rfl, hk, hkg2, hAl, HW, HB, HE⟩ := hrel
    have HG2 := Lib.hid hkg2; clear hkg2
    have hsz := HE.out.size
    by_cases hlt : k < s.size
    · by_cases hone : k + 1 = s.size
      · have hR := pairs_one (a := s[k]) (by rw [← HW.out, drop_cons s k hlt, drop_end s (k + 1) (by omega)] : (pairsS [s[k]]).map (A ++ ·) = R)
        subst hR
        have hb1 : ((k : Int) + 1 == (s.size : Int)) = true := by rw [beq_iff_eq]; omega
        clear hone
        go_wp2_with fail
        go_ret2
        exact ⟨rfl, HE.out⟩
      · have hlt2 : k + 1 < s.size := by omega
        have hb1 : ((k : Int) + 1 == (s.size : Int)) = false := by rw [beq_eq_false_iff_ne]; omega
        have hd : s.data.toList.drop k = s[k] :: s[k + 1] :: s.data.toList.drop (k + 2) := by rw [drop_cons s k hlt, drop_cons s (k + 1) hlt2]
        have HW2 : Hid ((pairsS (s[k] :: s[k + 1] :: s.data.toList.drop (k + 2))).map (A ++ ·) = R) := Lib.hid (by rw [← hd]; exact HW.out)
        have HHD := Lib.hid hd
        clear hone hd
        have hc1 := byte_lt s[k]
        have hc2 := byte_lt s[k + 1]
        rcases nib_cases s[k] with ⟨x, hx, hx16, hxn, _⟩ | ⟨hx, hxn, _⟩
        · have HXN := Lib.hid hxn
          have hx0 : ¬ (x : Int) < 0 := by omega
          rcases nib_cases s[k + 1] with ⟨y, hy, hy16, hyn, _⟩ | ⟨hy, hyn, _⟩
          · have HYN := Lib.hid hyn
            have hy0 : ¬ (y : Int) < 0 := by omega
            have HF := Lib.hid (pairs_go HW2.out hx hy)
            obtain ⟨V, hV⟩ : ∃ V : Nat, x * 16 + y = V := ⟨_, rfl⟩
            have hV256 : (V : Int) < 256 := by omega
            have HWV : Hid (IntKind.u8.wrap (bits .or .i64 (IntKind.i64.wrap ((x : Int) * 16)) (y : Int)) = (V : Int)) := Lib.hid (by
              rw [IntWalk.i64_in _ (by omega), or4 (by omega) (by omega) (by omega) (by omega) (by omega), IntKind.wrap_u8]; omega)
            rw [hV] at HF
            have HWB := Lib.hid (fun wz (h : Bld w.heap.size w.heap.size A wz) (hz : w.heap.size ≤ wz.heap.size) => wbi w.heap.size w.heap.size A (UInt8.ofNat V) (V : Int) (by rw [UInt8.toNat_ofNat']; omega) wz h (by omega) hz)
            have HI1 : Hid (IntKind.i64.wrap ((k : Int) + 1) = (k : Int) + 1) := Lib.hid (IntWalk.i64_in _ (by omega))
            have HI3 : Hid (((k : Int) + 1).toNat = k + 1) := Lib.hid (by omega)
            have hi2 : (k : Int) + 1 < (s.size : Int) := by omega
            have hi0 : 0 ≤ (k : Int) + 1 := by omega
            clear hx hy hxn hyn hV HW2 HW HHD
            go_upto_region 7 with (go_at_call 68; refine (nibble_is _ _).mono ?_; rintro e w5 ⟨rfl, rfl⟩; simp only [HXN.out, HYN.out])
            go_still_tail 12, (by kernel_rfl)
            still_call (nibble_any _ _)
            simp only [HXN.out]
            repeat still_step
            refine wpStill_step (fun KK hKK => ?_)
            go_simp
            simp only [HI1.out]
            go_simp
            refine hKK _ ?_
            clear hKK KK
            still_call (nibble_any _ _)
            simp only [HYN.out]
            repeat still_step
            refine wpStill_nil ?_
            change wpList _ _ _ _ _ wr.drew
            generalize hwd : World.drew wr = wd
            simp only [HWV.out]
            have HED : Hid (Below w.heap.size w wd) := Lib.hid (by rw [← hwd]; exact HE.out.drew)
            have HWB2 := Lib.hid (HWB.out wd (by rw [← hwd]; exact bld_below HB.out (Below.refl _ _).drew) HED.out.size)
            clear hwd
            go_wp2_with fail
            refine HWB2.out.mono ?_
            rintro e w6 ⟨rfl, hb6, hE6⟩
            go_wp2_with fail
            have hkg2 := HG2.out
            go_roundg (gk - 1)
            case rel => exact ⟨k + 2, _, by go_num, by omega, by omega, by simp; omega, HF, Lib.hid hb6, Lib.hid (HED.out.trans hE6)⟩
            case measure => omega
          · have HYN := Lib.hid hyn
            have hR := pairs_bad HW2.out (.inr hy)
            subst hR
            clear hx hy hxn hyn HW2 HW HHD
            go_wp2_with (go_at_call 68; refine (nibble_is _ _).mono ?_; rintro e w5 ⟨rfl, rfl⟩; simp only [HXN.out, HYN.out])
            go_ret2
            exact ⟨rfl, HE.out⟩
        · have HXN := Lib.hid hxn
          have hR := pairs_bad HW2.out (.inl hx)
          subst hR
          clear hx hxn HW2 HW HHD
          go_wp2_with (go_at_call 68; refine (nibble_is _ _).mono ?_; rintro e w5 ⟨rfl, rfl⟩; simp only [HXN.out])
          go_ret2
          exact ⟨rfl, HE.out⟩
    · have hR := pairs_end (by rw [← HW.out, drop_end s k (by omega)] : (pairsS []).map (A ++ ·) = R)
      have hAl2 := HLEN.out A hR
      subst hR
      go_wp2_with fail
      refine (Tryz.Builder_String_any _ _ A _ HB.out (by omega)).mono ?_
      rintro e v2 ⟨rfl, hE2⟩
      go_wp2_with fail
      go_ret2
      exact ⟨rfl, HE.out.trans hE2⟩
end Go.Proofs.YtkcpbjoolfojjaaGreatDoor.wdC
namespace Go.Proofs.YtkcpbjoolfojjaaGreatDoor.from32
open Go.RowKit Go.Proofs.YtkcpbjoolfojjaaGreatDoor.kit Go.Proofs.YtkcpbjoolfojjaaGreatDoor.bits Go.Proofs.YtkcpbjoolfojjaaGreatDoor.back Go.Proofs.YtkcpbjoolfojjaaGreatDoor.bld Go.Proofs.YtkcpbjoolfojjaaGreatDoor.to32

theorem or5 {x y : Int} (hx₀ : 0 ≤ x) (hx : x % 32 = 0) (hx₁ : x < 2147483648) (h₀ : 0 ≤ y) (h₁ : y < 32) : bits .or .i64 x y = x + y :=
  bits_join .i64 31 (by decide) wraps31 5 x y hx₀ hx hx₁ h₀ h₁ (by omega)
theorem val_case (c : UInt8) : (∃ v : Nat, val32 c = some v ∧ v < 32 ∧ ((48 ≤ c.toNat ∧ c.toNat ≤ 57 ∧ v + 48 = c.toNat) ∨ (97 ≤ c.toNat ∧ c.toNat ≤ 118 ∧ v + 87 = c.toNat) ∨ (65 ≤ c.toNat ∧ c.toNat ≤ 86 ∧ v + 55 = c.toNat))) ∨
    (val32 c = none ∧ (c.toNat < 48 ∨ (57 < c.toNat ∧ c.toNat < 65) ∨ (86 < c.toNat ∧ c.toNat < 97) ∨ 118 < c.toNat)) := by
  by_cases h1 : 48 ≤ c.toNat ∧ c.toNat ≤ 57
  · exact .inl ⟨c.toNat - 48, by unfold val32; rw [if_pos h1], by omega, .inl ⟨h1.1, h1.2, by omega⟩⟩
  · by_cases h2 : 97 ≤ c.toNat ∧ c.toNat ≤ 118
    · exact .inl ⟨c.toNat - 87, by unfold val32; rw [if_neg h1, if_pos h2], by omega, .inr (.inl ⟨h2.1, h2.2, by omega⟩)⟩
    · by_cases h3 : 65 ≤ c.toNat ∧ c.toNat ≤ 86
      · exact .inl ⟨c.toNat - 55, by unfold val32; rw [if_neg h1, if_neg h2, if_pos h3], by omega, .inr (.inr ⟨h3.1, h3.2, by omega⟩)⟩
      · exact .inr ⟨by unfold val32; rw [if_neg h1, if_neg h2, if_neg h3], by omega⟩

set_option maxRecDepth 100000 in
set_option maxHeartbeats 4000000 in
theorem nfrom32_any (s : ByteArray) (w : World) (hs : s.size ≤ 1099511627776) :
    Calls Tryz.prog 210 #[.string s] w fun e w' => e = two (from32S s.data.toList) ∧ Below w.heap.size w w' := by
  obtain ⟨R, HR⟩ : ∃ R, Hid (from32S s.data.toList = R) := ⟨_, Lib.hid rfl⟩
  rw [HR.out]
  have hfb := Lib.fresh_isBuilder 52 5 w
  have hBa := (Below.refl w.heap.size w).alloc (Nat.le_refl _) (.cells #[.pointer none, .slice none 0 0] 52)
  go_enter Tryz.func210, Tryz.ntmps210
  go_wp2
  go_loopg [5, 6, 12] (s.size + 1) (fun gas hv bv kv wr => ∃ (k h b : Nat) (A : List UInt8), hv = .int .i64 h ∧ bv = .int .i64 b ∧ kv = .int .i64 k ∧ h < 4096 ∧ b < 8 ∧ k ≤ s.size ∧ k + gas = s.size + 1 ∧ A.length ≤ k ∧ Hid (backS 5 5 val32 A (tob h b) (s.data.toList.drop k) = R) ∧ Bld w.heap.size w.heap.size A wr ∧ Below w.heap.size w wr)
  case atStart => exact ⟨0, 0, 0, [], rfl, rfl, rfl, by omega, by omega, by omega, by omega, by simp, HR, hfb, hBa⟩
  case round =>
    clear hfb hBa
    obtain ⟨k, h, b, A, rfl, rfl, rfl, hh, hb, hk, hkg, hAk, HW, hA, hB⟩ := hrel
    have HK := Lib.hid hkg; clear hkg
    have hsz := hB.size
    by_cases hlt : k < s.size
    · have hc256 := byte_lt s[k]
      rcases val_case s[k] with ⟨v, hv, hv32, hcc⟩ | ⟨hv, hcc⟩
      · obtain ⟨H, hH⟩ : ∃ H : Nat, (h * 32 + v) % 4096 = H := ⟨_, rfl⟩
        have hH4 : H < 4096 := by omega
        have HSTEP := Lib.hid (back_some HW.out (drop_cons s k hlt) hv hv32 (by omega) hH)
        have HOR := Lib.hid (or5 (x := (h : Int) * 32) (y := (v : Int)) (by omega) (by omega) (by omega) (by omega) (by omega))
        have HAND : Hid (bits .and .i64 ((h : Int) * 32 + (v : Int)) 4095 = (H : Int)) := Lib.hid (by
          rw [and4095 (by omega) (by omega)]; omega)
        clear hH hv
        have hor := congrArg (Value.int .i64) HOR.out
        have hand := congrArg (Value.int .i64) HAND.out
        by_cases h8 : 3 ≤ b
        · obtain ⟨q, hq⟩ : ∃ q, b = q + 3 := ⟨b - 3, by omega⟩
          have hq8 : (q : Int) < 8 := by omega
          have hsub : Value.int .i64 ((b : Int) + 5 - 8) = Value.int .i64 (q : Int) := by congr 1; omega
          have hbb : (8 : Int) ≤ (b : Int) + 5 := by omega
          have hZb : ((UInt8.ofNat (H / 2 ^ q)).toNat : Int) = (H : Int) / 2 ^ q % 256 := by simp [UInt8.toNat_ofNat']
          have HSB : Hid (backS 5 5 val32 (A ++ [UInt8.ofNat (H / 2 ^ q)]) (tob H q) (s.data.toList.drop (k + 1)) = R) := Lib.hid (by
            have h1 := HSTEP.out
            rw [hq] at h1
            exact back_byte h1)
          have hwb := wb w.heap.size w.heap.size A (UInt8.ofNat (H / 2 ^ q)) wr hA (by omega) hsz
          rw [hZb] at hwb
          have HWB := Lib.hid hwb
          clear hwb hq hZb
          rcases hcc with ⟨hc1, hc2, hc3⟩ | ⟨hc1, hc2, hc3⟩ | ⟨hc1, hc2, hc3⟩
          · have hc4 : Value.int .i64 ((s[k].toNat : Int) - 48) = Value.int .i64 (v : Int) := by congr 1; omega
            have hc1 : (48 : Int) ≤ (s[k].toNat : Int) := by omega
            have hc2 : (s[k].toNat : Int) ≤ 57 := by omega
            clear hc3
            go_wp2_with fail
            refine HWB.out.mono ?_
            rintro e v1 ⟨rfl, hb1, hE1⟩
            clear hor hand hc4
            go_wp2
            have hkg := HK.out
            go_roundg (gk - 1)
            case rel => exact ⟨k + 1, H, q, _, rfl, (by first | rfl | exact hsub), by go_num, hH4, by omega, by omega, by omega, by simp; omega, HSB, hb1, hB.trans hE1⟩
            case measure => omega
          · have hc4 : Value.int .i64 ((s[k].toNat : Int) - 97 + 10) = Value.int .i64 (v : Int) := by congr 1; omega
            have hc1 : (97 : Int) ≤ (s[k].toNat : Int) := by omega
            have hc2 : (s[k].toNat : Int) ≤ 118 := by omega
            clear hc3
            go_wp2_with fail
            refine HWB.out.mono ?_
            rintro e v1 ⟨rfl, hb1, hE1⟩
            clear hor hand hc4
            go_wp2
            have hkg := HK.out
            go_roundg (gk - 1)
            case rel => exact ⟨k + 1, H, q, _, rfl, (by first | rfl | exact hsub), by go_num, hH4, by omega, by omega, by omega, by simp; omega, HSB, hb1, hB.trans hE1⟩
            case measure => omega
          · have hc4 : Value.int .i64 ((s[k].toNat : Int) - 65 + 10) = Value.int .i64 (v : Int) := by congr 1; omega
            have hc1 : (65 : Int) ≤ (s[k].toNat : Int) := by omega
            have hc2 : (s[k].toNat : Int) ≤ 86 := by omega
            clear hc3
            go_wp2_with fail
            refine HWB.out.mono ?_
            rintro e v1 ⟨rfl, hb1, hE1⟩
            clear hor hand hc4
            go_wp2
            have hkg := HK.out
            go_roundg (gk - 1)
            case rel => exact ⟨k + 1, H, q, _, rfl, (by first | rfl | exact hsub), by go_num, hH4, by omega, by omega, by omega, by simp; omega, HSB, hb1, hB.trans hE1⟩
            case measure => omega
        · have hbb : (b : Int) + 5 < 8 := by omega
          rcases hcc with ⟨hc1, hc2, hc3⟩ | ⟨hc1, hc2, hc3⟩ | ⟨hc1, hc2, hc3⟩
          · have hc4 : Value.int .i64 ((s[k].toNat : Int) - 48) = Value.int .i64 (v : Int) := by congr 1; omega
            have hc1 : (48 : Int) ≤ (s[k].toNat : Int) := by omega
            have hc2 : (s[k].toNat : Int) ≤ 57 := by omega
            clear hc3
            go_wp2
            clear hor hand hc4
            have hkg := HK.out
            go_roundg (gk - 1)
            case rel => exact ⟨k + 1, H, b + 5, A, rfl, by go_num, by go_num, hH4, by omega, by omega, by omega, by omega, HSTEP, hA, hB⟩
            case measure => omega
          · have hc4 : Value.int .i64 ((s[k].toNat : Int) - 97 + 10) = Value.int .i64 (v : Int) := by congr 1; omega
            have hc1 : (97 : Int) ≤ (s[k].toNat : Int) := by omega
            have hc2 : (s[k].toNat : Int) ≤ 118 := by omega
            clear hc3
            go_wp2
            clear hor hand hc4
            have hkg := HK.out
            go_roundg (gk - 1)
            case rel => exact ⟨k + 1, H, b + 5, A, rfl, by go_num, by go_num, hH4, by omega, by omega, by omega, by omega, HSTEP, hA, hB⟩
            case measure => omega
          · have hc4 : Value.int .i64 ((s[k].toNat : Int) - 65 + 10) = Value.int .i64 (v : Int) := by congr 1; omega
            have hc1 : (65 : Int) ≤ (s[k].toNat : Int) := by omega
            have hc2 : (s[k].toNat : Int) ≤ 86 := by omega
            clear hc3
            go_wp2
            clear hor hand hc4
            have hkg := HK.out
            go_roundg (gk - 1)
            case rel => exact ⟨k + 1, H, b + 5, A, rfl, by go_num, by go_num, hH4, by omega, by omega, by omega, by omega, HSTEP, hA, hB⟩
            case measure => omega
      · have HN := Lib.hid (back_none HW.out (drop_cons s k hlt) hv)
        clear hv
        have hc0 : (0 : Int) ≤ (s[k].toNat : Int) := by omega
        rcases hcc with hc | ⟨hc, hc'⟩ | ⟨hc, hc'⟩ | hc
        · have hc1 : (s[k].toNat : Int) < 48 := by omega
          go_wp2
          go_ret2
          exact ⟨by rw [HN.out]; rfl, hB⟩
        · have hc1 : (57 : Int) < (s[k].toNat : Int) := by omega
          have hc2 : (s[k].toNat : Int) < 65 := by omega
          go_wp2
          go_ret2
          exact ⟨by rw [HN.out]; rfl, hB⟩
        · have hc1 : (86 : Int) < (s[k].toNat : Int) := by omega
          have hc2 : (s[k].toNat : Int) < 97 := by omega
          go_wp2
          go_ret2
          exact ⟨by rw [HN.out]; rfl, hB⟩
        · have hc1 : (118 : Int) < (s[k].toNat : Int) := by omega
          go_wp2
          go_ret2
          exact ⟨by rw [HN.out]; rfl, hB⟩
    · have hkk : s.data.toList.drop k = [] := drop_end s k (by omega)
      have HN := HW.out
      rw [hkk] at HN
      have HE := Lib.hid (back_end HN (by omega))
      clear HN hkk
      by_cases hb5 : 5 ≤ b
      · have HRR : Hid (R = none) := Lib.hid (by rw [HE.out, if_neg (by omega)])
        have hb5i : (5 : Int) ≤ (b : Int) := by omega
        have hd : decide (5 ≤ b) = true := by simp; omega
        go_wp2
        go_ret2
        exact ⟨by rw [HRR.out]; rfl, hB⟩
      · have hb5i : (b : Int) < 5 := by omega
        have hd : decide (5 ≤ b) = false := by simp; omega
        obtain ⟨z, hz⟩ : ∃ z : Nat, h % 2 ^ b = z := ⟨_, rfl⟩
        have hv : Value.int .i64 (bits .and .i64 (h : Int) (wrap64 (wrap64 (2 ^ b) - 1))) = Value.int .i64 (z : Int) := by
          obtain ⟨Z, hZ⟩ : ∃ Z : Nat, 2 ^ b = Z := ⟨_, rfl⟩
          have hp : 1 ≤ Z := by rw [← hZ]; exact Nat.two_pow_pos b
          have hl : Z ≤ 16 := by rw [← hZ]; exact Nat.pow_le_pow_right (n := 2) (by omega) (show b ≤ 4 by omega)
          have e : (2 : Int) ^ b = (Z : Int) := by rw [← hZ]; simp
          have em := bits_mask .i64 31 (by decide) wraps31 b (by omega) (h : Int) (by omega) (by omega)
          rw [e] at em ⊢
          rw [IntWalk.wrap64_in (Z : Int) (by omega), IntWalk.wrap64_in ((Z : Int) - 1) (by omega), em, ← hz, hZ]
          simp
        have HE2 := HE.out
        rw [hz] at HE2
        have HE3 := Lib.hid HE2
        clear HE2 hz
        by_cases hz0 : z = 0
        · have HRR : Hid (R = some A) := Lib.hid (by rw [HE3.out, if_pos ⟨hz0, by omega⟩])
          subst hz0
          have hd0 : ((((0 : Nat) : Int)) != 0) = false := rfl
          go_wp2_with fail
          refine (Tryz.Builder_String_any _ _ A _ hA (by omega)).mono ?_
          rintro e v2 ⟨rfl, hE2⟩
          go_wp2
          go_ret2
          exact ⟨by rw [HRR.out]; rfl, hB.trans hE2⟩
        · have HRR : Hid (R = none) := Lib.hid (by rw [HE3.out, if_neg (by omega)])
          have hd0 : ((z : Int) != 0) = true := by rw [bne_iff_ne]; omega
          go_wp2
          go_ret2
          exact ⟨by rw [HRR.out]; rfl, hB⟩
end Go.Proofs.YtkcpbjoolfojjaaGreatDoor.from32
namespace Go.Proofs.YtkcpbjoolfojjaaGreatDoor.heldG
open Go.RowKit
set_option linter.unusedVariables false

section
variable {P : Program} {ops : Array Oper} {Q : Exit → Act → World → Prop} {md : Region.Mode} {S : World → Prop} {T : Nat → Bool}
/-- S is owed behind each operation that is none of T's -/
def wpAnyG (P : Program) (md : Region.Mode) (ops : Array Oper) (Q : Exit → Act → World → Prop) (S : World → Prop) (T : Nat → Bool) : Nat → Array Bool → Act → World → Prop
  | 0, listed, a, w => Region.ready md ops listed = [] ∧ Q .normal a w
  | fuel + 1, listed, a, w =>
    (Region.ready md ops listed = [] → Q .normal a w) ∧
    ∀ i ∈ Region.ready md ops listed, wpOp P ops Q i (fun a' w' => (T i = false → S w') ∧ wpAnyG P md ops Q S T fuel (listed.setIfInBounds i true) a' w') a w
theorem any_of_G : ∀ (fuel : Nat) (listed : Array Bool) (a : Act) (w : World), wpAnyG P md ops Q S T fuel listed a w → wpAny P md ops Q fuel listed a w
  | 0, _, _, _, h => h
  | fuel + 1, _, _, _, h => ⟨h.1, fun i hi => wpOp_mono (fun a' w' h' => any_of_G fuel _ a' w' h'.2) (h.2 i hi)⟩
/-- each of T's waits for i -/
def waitB (md : Region.Mode) (ops : Array Oper) (T : Nat → Bool) (i : Nat) : Bool := (List.range ops.size).all fun t => !T t || Region.waitsFor md ops t i
theorem firstG {i : Nat} {oi : Oper} {v : Value} (hi : ops[i]? = some oi) (hsel : ∀ (j : Nat) (o : Oper) cs b, ops[j]? = some o → o.op ≠ .select cs b)
    (hQ : ∀ c a w, Q (.panic c) (a.put oi.dst v) w → Q (.panic c) a w) (hT : waitB md ops T i = true) (hTi : T i = false) :
    ∀ (fuel : Nat) (listed : Array Bool) (a : Act) (w : World),
      (∀ j oj, ops[j]? = some oj → j ≠ i → listed.getD j true = false → (∀ e ∈ oj.after, Region.binds md e = true → e.on ≠ i) → oi.apart ops oj = true) →
      i ∈ Region.ready md ops listed → YieldsIf P ops S oi v a → S w →
      wpAnyG P md ops Q S T fuel (listed.setIfInBounds i true) (a.put oi.dst v) w → wpAnyG P md ops Q S T (fuel + 1) listed a w := by
  intro fuel
  induction fuel with
  | zero =>
    intro listed a w _ hr hy hS H
    refine ⟨fun h => (by rw [h] at hr; cases hr), fun j hj => ?_⟩
    by_cases hji : j = i
    · subst hji; exact hy.wpOp hi hS ⟨fun _ => hS, H⟩
    · have := ready_mono hj hji
      rw [H.1] at this
      cases this
  | succ fuel ih =>
    intro listed a w hfree hr hy hS H
    refine ⟨fun h => (by rw [h] at hr; cases hr), fun j hj => ?_⟩
    by_cases hji : j = i
    · subst hji; exact hy.wpOp hi hS ⟨fun _ => hS, H⟩
    · have h1 := H.2 j (ready_mono hj hji)
      obtain ⟨hjun, oj, hoj, hall⟩ := mem_ready.1 hj
      have hnot : ∀ e ∈ oj.after, Region.binds md e = true → e.on ≠ i := fun e he hb heq => by
        have h1 := hall e he hb
        have h0 := (mem_ready.1 hr).1
        rw [heq] at h1
        rcases Nat.lt_or_ge i listed.size with h' | h'
        · simp [h'] at h0 h1; rw [h0] at h1; cases h1
        · simp [Array.getElem?_eq_none h'] at h1
      have hTj : T j = false := by
        cases hq : T j with
        | false => rfl
        | true =>
          have hlt : j < ops.size := (Array.getElem?_eq_some_iff.1 hoj).1
          have h2 := List.all_eq_true.1 hT j (List.mem_range.2 hlt)
          rw [hq] at h2
          simp only [Bool.not_true, Bool.false_or] at h2
          obtain ⟨o', ho', e, he, hb, hon⟩ := Region.waitsFor_spec h2
          have : o' = oj := Option.some.inj (ho'.symm.trans hoj)
          subst this
          exact absurd hon (hnot e he hb)
      have h2 := wpOp_putIf hoj (hfree j oj hoj hji hjun hnot) (fun cs b => hsel i oi cs b hi) (fun cs b => hsel j oj cs b hoj) hQ hy h1
      have hfree' : ∀ k ok, ops[k]? = some ok → k ≠ i → (listed.setIfInBounds j true).getD k true = false →
          (∀ e ∈ ok.after, Region.binds md e = true → e.on ≠ i) → oi.apart ops ok = true := fun k ok hk hki hun hno => by
        refine hfree k ok hk hki ?_ hno
        by_cases hjk : j = k
        · subst hjk; exact hjun
        · rw [getD_set_ne true hjk] at hun; exact hun
      refine wpOp_mono (fun a' w' h3 => ⟨h3.2.1, ih (listed.setIfInBounds j true) a' w' hfree' (ready_mono hr (Ne.symm hji)) h3.1 (h3.2.1 hTj) ?_⟩) h2
      rw [Array.setIfInBounds_comm _ _ hji]
      exact h3.2.2
theorem takeG {i : Nat} {oi : Oper} {v : Value} {fuel : Nat} {listed : Array Bool} {a : Act} {w : World} (hi : ops[i]? = some oi)
    (hs : Region.noSelect ops = true) (hf : Region.free md ops listed i = true) (hr : (Region.ready md ops listed).contains i = true)
    (hQ : ∀ c a w, Q (.panic c) (a.put oi.dst v) w → Q (.panic c) a w) (hT : waitB md ops T i = true) (hTi : T i = false) (hy : YieldsIf P ops S oi v a) (hS : S w)
    (h : wpAnyG P md ops Q S T fuel (listed.setIfInBounds i true) (a.put oi.dst v) w) : wpAnyG P md ops Q S T (fuel + 1) listed a w :=
  firstG hi (Region.noSelect_spec hs) hQ hT hTi fuel listed a w (Region.free_spec hi hf) (by simpa using hr) hy hS h
def AllG (P : Program) (md : Region.Mode) (ops : Array Oper) (Q : Exit → Act → World → Prop) (S : World → Prop) (T : Nat → Bool) (fuel : Nat) (listed : Array Bool) (a : Act) (w : World) (rs : List Nat) : Prop :=
  ∀ i ∈ rs, wpOp P ops Q i (fun a' w' => (T i = false → S w') ∧ wpAnyG P md ops Q S T fuel (listed.setIfInBounds i true) a' w') a w
theorem AllG.nil {fuel : Nat} {listed : Array Bool} {a : Act} {w : World} : AllG P md ops Q S T fuel listed a w [] := fun _ h => by cases h
theorem AllG.cons {fuel : Nat} {listed : Array Bool} {a : Act} {w : World} {i : Nat} {o : Oper} {rs : List Nat} (ho : ops[i]? = some o)
    (h : ∀ K' : Act → World → Prop, Shut (∀ a w, (T i = false → S w) → wpAnyG P md ops Q S T fuel (listed.setIfInBounds i true) a w → K' a w) → if Region.wanted o (yielded ops a.tmps) = true then Oper.wp P o a w K' Q else K' (a.put o.dst undef) w)
    (hs : AllG P md ops Q S T fuel listed a w rs) : AllG P md ops Q S T fuel listed a w (i :: rs) := fun j hj => by
  rcases List.mem_cons.1 hj with rfl | hj
  · exact wpOp_step ho (fun K' hK => h K' (fun a w hS hW => hK a w ⟨hS, hW⟩))
  · exact hs j hj
theorem readyG {rs : List Nat} {fuel : Nat} {listed : Array Bool} {a : Act} {w : World} (hr : Region.ready md ops listed = rs) (hne : rs ≠ [])
    (h : AllG P md ops Q S T fuel listed a w rs) : wpAnyG P md ops Q S T (fuel + 1) listed a w :=
  ⟨fun h0 => absurd (hr ▸ h0) hne, hr ▸ h⟩
theorem doneG {listed : Array Bool} {a : Act} {w : World} (hr : Region.ready md ops listed = []) (h : Q .normal a w) :
    ∀ fuel, wpAnyG P md ops Q S T fuel listed a w
  | 0 => ⟨hr, h⟩
  | _ + 1 => ⟨fun _ => h, by rw [hr]; simp⟩
theorem regionG {id : Nat} {a : Act} {w : World} (S : World → Prop) (T : Nat → Bool) (hm : P.follows .mixedOrders = true)
    (h : wpAnyG P .any ops Q S T ops.size (Array.replicate ops.size false) a w.drew) : (Code.region id ops true).wp P Q a w :=
  wp_region_any hm (any_of_G _ _ _ _ h)
end
end Go.Proofs.YtkcpbjoolfojjaaGreatDoor.heldG
