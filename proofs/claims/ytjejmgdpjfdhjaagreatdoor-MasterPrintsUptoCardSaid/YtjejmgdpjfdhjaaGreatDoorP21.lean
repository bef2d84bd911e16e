/- gazetteerref1.showField: walks, letter by letter. strings.Join with a blank: walk. gazetteerref1.NamesIn: walk. Rows of so many cells: read, owned, appended. -/
import Derived.Test.YtjejmgdpjfdhjaaGreatDoorP20
import Derived.Test.YtjejmgdpjfdhjaaGreatDoorP14
import Derived.Test.YtjejmgdpjfdhjaaGreatDoorP7
import Derived.Test.YtjejmgdpjfdhjaaGreatDoorP19
import Derived.Test.YtjejmgdpjfdhjaaGreatDoorP18
import Derived.Test.YtjejmgdpjfdhjaaGreatDoorP15
namespace Go.Proofs.YtjejmgdpjfdhjaaGreatDoor.rfield
open Go.RowKit Go.Proofs.YtjejmgdpjfdhjaaGreatDoor.kit Go.Proofs.YtjejmgdpjfdhjaaGreatDoor.nspec Go.Proofs.YtjejmgdpjfdhjaaGreatDoor.bits Go.Proofs.YtjejmgdpjfdhjaaGreatDoor.bld Go.Proofs.YtjejmgdpjfdhjaaGreatDoor.dshow Go.Proofs.YtjejmgdpjfdhjaaGreatDoor.rsplit Go.Proofs.YtjejmgdpjfdhjaaGreatDoor.tname Go.Proofs.YtjejmgdpjfdhjaaGreatDoor.fld Go.Proofs.YtjejmgdpjfdhjaaGreatDoor.dshowB Go.Proofs.YtjejmgdpjfdhjaaGreatDoor.dshowC Go.Proofs.YtjejmgdpjfdhjaaGreatDoor.dshowD Go.Proofs.YtjejmgdpjfdhjaaGreatDoor.val Go.Proofs.YtjejmgdpjfdhjaaGreatDoor.rshowA Go.Proofs.YtjejmgdpjfdhjaaGreatDoor.rshow6 Go.Proofs.YtjejmgdpjfdhjaaGreatDoor.textsT Go.Proofs.YtjejmgdpjfdhjaaGreatDoor.ints Go.Proofs.YtjejmgdpjfdhjaaGreatDoor.rsize
set_option linter.unusedVariables false

theorem dec_any (n : Nat) (h : n < 10000000000000000) (w : World) :
    Calls Tryz.prog 19 #[.int .i64 (n : Int)] w fun e w' => e = .returned (.string ⟨(Lib.decDigits n).toArray⟩) ∧ Below w.heap.size w w' := decimal_any 15 n w h (Nat.le_refl _)
set_option maxRecDepth 100000 in
set_option maxHeartbeats 2400000 in
theorem num1_f (s : ByteArray) (w : World) (hs : s.size ≤ 4) :
    Calls Tryz.prog 22 #[.int .u8 49, .string s] w (ShowPost w (showF (.num 1) s.data.toList)) := by
  obtain ⟨n, hn⟩ : ∃ n, valL s.data.toList 0 = n := ⟨_, rfl⟩
  have hn4 : n < 4294967296 := by rw [← hn]; exact valL_four (by rw [size_len]; exact hs)
  have CS := Lib.hid (fun w => rvalue_any s w hs)
  rw [hn] at CS
  have CD := Lib.hid (fun w => dec_any n (by omega) w)
  rw [showF, hn]
  clear hn
  go_enter Tryz.func22, Tryz.ntmps22
  go_wp2_with fail
  refine (CS.out _).mono ?_
  rintro e w1 ⟨rfl, rfl⟩
  go_wp2_with fail
  refine (CD.out _).mono ?_
  rintro e w1 ⟨rfl, hB1⟩
  have HB1 := Lib.hid hB1
  clear hB1
  go_wp2_with fail
  go_ret
  exact show_one HB1.out rfl _
set_option maxRecDepth 100000 in
set_option maxHeartbeats 2400000 in
theorem num2_f (s : ByteArray) (w : World) (hs : s.size ≤ 4) :
    Calls Tryz.prog 22 #[.int .u8 50, .string s] w (ShowPost w (showF (.num 2) s.data.toList)) := by
  obtain ⟨n, hn⟩ : ∃ n, valL s.data.toList 0 = n := ⟨_, rfl⟩
  have hn4 : n < 4294967296 := by rw [← hn]; exact valL_four (by rw [size_len]; exact hs)
  have CS := Lib.hid (fun w => rvalue_any s w hs)
  rw [hn] at CS
  have CD := Lib.hid (fun w => dec_any n (by omega) w)
  rw [showF, hn]
  clear hn
  go_enter Tryz.func22, Tryz.ntmps22
  go_wp2_with fail
  refine (CS.out _).mono ?_
  rintro e w1 ⟨rfl, rfl⟩
  go_wp2_with fail
  refine (CD.out _).mono ?_
  rintro e w1 ⟨rfl, hB1⟩
  have HB1 := Lib.hid hB1
  clear hB1
  go_wp2_with fail
  go_ret
  exact show_one HB1.out rfl _
set_option maxRecDepth 100000 in
set_option maxHeartbeats 2400000 in
theorem num4_f (s : ByteArray) (w : World) (hs : s.size ≤ 4) :
    Calls Tryz.prog 22 #[.int .u8 52, .string s] w (ShowPost w (showF (.num 4) s.data.toList)) := by
  obtain ⟨n, hn⟩ : ∃ n, valL s.data.toList 0 = n := ⟨_, rfl⟩
  have hn4 : n < 4294967296 := by rw [← hn]; exact valL_four (by rw [size_len]; exact hs)
  have CS := Lib.hid (fun w => rvalue_any s w hs)
  rw [hn] at CS
  have CD := Lib.hid (fun w => dec_any n (by omega) w)
  rw [showF, hn]
  clear hn
  go_enter Tryz.func22, Tryz.ntmps22
  go_wp2_with fail
  refine (CS.out _).mono ?_
  rintro e w1 ⟨rfl, rfl⟩
  go_wp2_with fail
  refine (CD.out _).mono ?_
  rintro e w1 ⟨rfl, hB1⟩
  have HB1 := Lib.hid hB1
  clear hB1
  go_wp2_with fail
  go_ret
  exact show_one HB1.out rfl _
set_option maxRecDepth 100000 in
set_option maxHeartbeats 2400000 in
theorem host_f (s : ByteArray) (w : World) (hs : s.size ≤ 65535) :
    Calls Tryz.prog 22 #[.int .u8 110, .string s] w (ShowPost w (showF .host s.data.toList)) := by
  rw [showF]
  go_enter Tryz.func22, Tryz.ntmps22
  go_wp2_with fail
  refine (nshow.show_any s _ (by omega)).mono ?_
  rintro e w1 ⟨rfl, hB1⟩
  have HB1 := Lib.hid hB1
  clear hB1
  go_wp2_with fail
  go_ret
  exact show_one HB1.out rfl _
set_option maxRecDepth 100000 in
set_option maxHeartbeats 2400000 in
theorem tail_f (s : ByteArray) (w : World) (hs : s.size ≤ 65535) :
    Calls Tryz.prog 22 #[.int .u8 114, .string s] w (ShowPost w (showF .tail s.data.toList)) := by
  rw [showF]
  go_enter Tryz.func22, Tryz.ntmps22
  go_wp2_with fail
  refine (rquote_any s _ (by omega)).mono ?_
  rintro e w1 ⟨rfl, hB1⟩
  have HB1 := Lib.hid hB1
  clear hB1
  go_wp2_with fail
  go_ret
  exact show_one HB1.out rfl _
set_option maxRecDepth 100000 in
set_option maxHeartbeats 2400000 in
theorem hexes_f (s : ByteArray) (w : World) (hs : s.size ≤ 65535) :
    Calls Tryz.prog 22 #[.int .u8 104, .string s] w (ShowPost w (showF .hexes s.data.toList)) := by
  rw [showF]
  go_enter Tryz.func22, Tryz.ntmps22
  go_wp2_with fail
  refine (rhex_any s _ (by omega)).mono ?_
  rintro e w1 ⟨rfl, hB1⟩
  have HB1 := Lib.hid hB1
  clear hB1
  go_wp2_with fail
  go_ret
  exact show_one HB1.out rfl _
set_option maxRecDepth 100000 in
set_option maxHeartbeats 2400000 in
theorem b64_f (s : ByteArray) (w : World) (hs : s.size ≤ 65535) :
    Calls Tryz.prog 22 #[.int .u8 98, .string s] w (ShowPost w (showF .b64 s.data.toList)) := by
  rw [showF]
  go_enter Tryz.func22, Tryz.ntmps22
  go_wp2_with fail
  refine (rb64_any s _ (by omega)).mono ?_
  rintro e w1 ⟨rfl, hB1⟩
  have HB1 := Lib.hid hB1
  clear hB1
  go_wp2_with fail
  go_ret
  exact show_one HB1.out rfl _
set_option maxRecDepth 100000 in
set_option maxHeartbeats 2400000 in
theorem ip6_f (s : ByteArray) (w : World) (hs : s.size = 16) :
    Calls Tryz.prog 22 #[.int .u8 54, .string s] w (ShowPost w (showF .ip6 s.data.toList)) := by
  rw [showF]
  go_enter Tryz.func22, Tryz.ntmps22
  go_wp2_with fail
  refine (show6_any s _ hs).mono ?_
  rintro e w1 ⟨rfl, hB1⟩
  have HB1 := Lib.hid hB1
  clear hB1
  go_wp2_with fail
  go_ret
  exact show_one HB1.out rfl _
set_option maxRecDepth 100000 in
set_option maxHeartbeats 2400000 in
theorem text_f (s : ByteArray) (w : World) (hs : s.size ≤ 65535) (h1 : 1 ≤ s.size) :
    Calls Tryz.prog 22 #[.int .u8 116, .string s] w (ShowPost w (showF .text s.data.toList)) := by
  have hd : (s.extract 1 s.size).data.toList = s.data.toList.drop 1 := ext_end s 1
  obtain ⟨u, hu⟩ : ∃ u, s.extract 1 s.size = u := ⟨_, rfl⟩
  rw [hu] at hd
  have hus : u.size ≤ s.size := by rw [← hu, ByteArray.size_extract]; omega
  obtain ⟨D, hD⟩ : ∃ D, s.data.toList.drop 1 = D := ⟨_, rfl⟩
  rw [hD] at hd
  rw [showF, hD]
  have C := Lib.hid (fun w => rquote_any u w (by omega))
  rw [hd] at C
  clear hd hD
  go_enter Tryz.func22, Tryz.ntmps22
  go_wp2_with fail
  refine (C.out _).mono ?_
  rintro e w1 ⟨rfl, hB1⟩
  have HB1 := Lib.hid hB1
  clear hB1
  go_wp2_with fail
  go_ret
  exact show_one HB1.out rfl _
set_option maxRecDepth 100000 in
set_option maxHeartbeats 2400000 in
theorem hash_f (s : ByteArray) (w : World) (hs : s.size ≤ 65535) (h1 : 1 ≤ s.size) :
    Calls Tryz.prog 22 #[.int .u8 72, .string s] w (ShowPost w (showF .hash s.data.toList)) := by
  have hd : (s.extract 1 s.size).data.toList = s.data.toList.drop 1 := ext_end s 1
  obtain ⟨u, hu⟩ : ∃ u, s.extract 1 s.size = u := ⟨_, rfl⟩
  rw [hu] at hd
  have hus : u.size ≤ s.size := by rw [← hu, ByteArray.size_extract]; omega
  obtain ⟨D, hD⟩ : ∃ D, s.data.toList.drop 1 = D := ⟨_, rfl⟩
  rw [hD] at hd
  rw [showF, hD]
  have C := Lib.hid (fun w => coded.rto32_any u w (by omega))
  rw [hd] at C
  clear hd hD
  go_enter Tryz.func22, Tryz.ntmps22
  go_wp2_with fail
  refine (C.out _).mono ?_
  rintro e w1 ⟨rfl, hB1⟩
  have HB1 := Lib.hid hB1
  clear hB1
  go_wp2_with fail
  go_ret
  exact show_one HB1.out rfl _
set_option maxRecDepth 100000 in
set_option maxHeartbeats 2400000 in
theorem kind_f (s : ByteArray) (w : World) (hs : s.size ≤ 2) :
    Calls Tryz.prog 22 #[.int .u8 107, .string s] w (ShowPost w (showF .kind s.data.toList)) := by
  obtain ⟨n, hn⟩ : ∃ n, valL s.data.toList 0 = n := ⟨_, rfl⟩
  have CS := Lib.hid (fun w => rvalue_any s w (by omega))
  rw [hn] at CS
  have CD := Lib.hid (fun w => rtname_any (n : Int) w)
  rw [showF, hn]
  clear hn
  go_enter Tryz.func22, Tryz.ntmps22
  go_wp2_with fail
  refine (CS.out _).mono ?_
  rintro e w1 ⟨rfl, rfl⟩
  go_wp2_with fail
  refine (CD.out _).mono ?_
  rintro e w1 ⟨rfl, hB1⟩
  have HB1 := Lib.hid hB1
  clear hB1
  go_wp2_with fail
  go_ret
  exact show_one HB1.out rfl _
set_option maxRecDepth 100000 in
set_option maxHeartbeats 2400000 in
theorem salt_f (s : ByteArray) (w : World) (hs : s.size ≤ 65535) (h1 : 1 ≤ s.size) :
    Calls Tryz.prog 22 #[.int .u8 115, .string s] w (ShowPost w (showF .salt s.data.toList)) := by
  have hd : (s.extract 1 s.size).data.toList = s.data.toList.drop 1 := ext_end s 1
  obtain ⟨u, hu⟩ : ∃ u, s.extract 1 s.size = u := ⟨_, rfl⟩
  rw [hu] at hd
  have hus : u.size ≤ s.size := by rw [← hu, ByteArray.size_extract]; omega
  obtain ⟨D, hD⟩ : ∃ D, s.data.toList.drop 1 = D := ⟨_, rfl⟩
  rw [hD] at hd
  have C := Lib.hid (fun w => rhex_any u w (by omega))
  rw [hd] at C
  rw [showF]
  by_cases he : s.size = 1
  · have e0 : saltS s.data.toList = [45] := by unfold saltS; rw [if_pos (by rw [size_len]; exact he)]
    rw [e0]
    have hb : ((s.size : Int) == 1) = true := by rw [beq_iff_eq]; omega
    clear e0 hd C
    go_enter Tryz.func22, Tryz.ntmps22
    go_wp2_with fail
    go_ret
    exact show_one (Below.refl _ _) (x := [45]) (X := ⟨#[45]⟩) rfl _
  · have e0 : saltS s.data.toList = hexS (s.data.toList.drop 1) := by unfold saltS; rw [if_neg (by rw [size_len]; exact he)]
    rw [e0, hD]
    have hb : ((s.size : Int) == 1) = false := by rw [beq_eq_false_iff_ne]; omega
    clear e0 hd
    go_enter Tryz.func22, Tryz.ntmps22
    go_wp2_with fail
    refine (C.out _).mono ?_
    rintro e w1 ⟨rfl, hB1⟩
    have HB1 := Lib.hid hB1
    clear hB1
    go_wp2_with fail
    go_ret
    exact show_one HB1.out rfl _
set_option maxRecDepth 100000 in
set_option maxHeartbeats 2400000 in
theorem ip4_f (s : ByteArray) (w : World) (hs : s.size = 4) :
    Calls Tryz.prog 22 #[.int .u8 97, .string s] w (ShowPost w (showF .ip4 s.data.toList)) := by
  obtain ⟨c0, h0⟩ : ∃ c, s.data.toList.getD 0 0 = c := ⟨_, rfl⟩
  obtain ⟨c1, h1⟩ : ∃ c, s.data.toList.getD 1 0 = c := ⟨_, rfl⟩
  obtain ⟨c2, h2⟩ : ∃ c, s.data.toList.getD 2 0 = c := ⟨_, rfl⟩
  obtain ⟨c3, h3⟩ : ∃ c, s.data.toList.getD 3 0 = c := ⟨_, rfl⟩
  obtain ⟨T0, t0⟩ : ∃ T : ByteArray, (⟨(Lib.decDigits c0.toNat).toArray⟩ : ByteArray) = T := ⟨_, rfl⟩
  obtain ⟨T1, t1⟩ : ∃ T : ByteArray, (⟨(Lib.decDigits c1.toNat).toArray⟩ : ByteArray) = T := ⟨_, rfl⟩
  obtain ⟨T2, t2⟩ : ∃ T : ByteArray, (⟨(Lib.decDigits c2.toNat).toArray⟩ : ByteArray) = T := ⟨_, rfl⟩
  obtain ⟨T3, t3⟩ : ∃ T : ByteArray, (⟨(Lib.decDigits c3.toNat).toArray⟩ : ByteArray) = T := ⟨_, rfl⟩
  have hput := Lib.hid (ip4_put s h0 h1 h2 h3 t0 t1 t2 t3)
  have z0 := dec_size c0 t0; have z1 := dec_size c1 t1; have z2 := dec_size c2 t2; have z3 := dec_size c3 t3
  have CD : ∀ (c : UInt8) (T : ByteArray), (⟨(Lib.decDigits c.toNat).toArray⟩ : ByteArray) = T → Hid (∀ wx, Below w.heap.size w wx → Calls Tryz.prog 19 #[.int .i64 (c.toNat : Int)] wx fun e w' => e = .returned (.string T) ∧ Below w.heap.size w w') := by
    intro c T hT
    refine Lib.hid (fun wx hx => (dec_any c.toNat (by have := c.toNat_lt; omega) wx).mono ?_)
    rintro e w' ⟨rfl, hb⟩
    exact ⟨by rw [hT], hx.trans (hb.mono hx.size)⟩
  have K0 := CD c0 T0 t0
  have K1 := CD c1 T1 t1
  have K2 := CD c2 T2 t2
  have K3 := CD c3 T3 t3
  have i0 := congrArg (fun c : UInt8 => Value.int .u8 (c.toNat : Int)) (at_byte s 0 (by omega) h0)
  have i1 := congrArg (fun c : UInt8 => Value.int .u8 (c.toNat : Int)) (at_byte s 1 (by omega) h1)
  have i2 := congrArg (fun c : UInt8 => Value.int .u8 (c.toNat : Int)) (at_byte s 2 (by omega) h2)
  have i3 := congrArg (fun c : UInt8 => Value.int .u8 (c.toNat : Int)) (at_byte s 3 (by omega) h3)
  have b0 := byte_lt c0; have b1 := byte_lt c1; have b2 := byte_lt c2; have b3 := byte_lt c3
  rw [showF]
  obtain ⟨R, hR⟩ : ∃ R, ip4S s.data.toList = R := ⟨_, rfl⟩
  have HR := Lib.hid (hput.out.symm.trans hR)
  rw [hR]
  clear hput hR t0 t1 t2 t3 h0 h1 h2 h3 CD
  go_enter Tryz.func22, Tryz.ntmps22
  go_upto_region 7 with (fail)
  have hS0 := (Below.refl w.heap.size w).drew
  refine heldG.regionG (fun w' => Below w.heap.size w w') (fun _ => false) (by kernel_rfl) ?_
  refine dshowC.isSetTake (i := 0) (d := 23) (v := .string s) rfl rfl (by kernel_rfl) (by kernel_rfl) (by kernel_rfl) (fun _ _ _ h => h) (by kernel_rfl) rfl (Or.inl ⟨by kernel_rfl, ?_⟩) hS0 ?_
  · intro wz hSw
    go_simp
  try simp only [Act.put, List.setIfInBounds_toArray, List.set_cons_zero, List.set_cons_succ]
  refine dshowC.isSetTake (i := 1) (d := 24) (v := .int .u8 (c0.toNat : Int)) rfl rfl (by kernel_rfl) (by kernel_rfl) (by kernel_rfl) (fun _ _ _ h => h) (by kernel_rfl) rfl (Or.inl ⟨by kernel_rfl, ?_⟩) hS0 ?_
  · intro wz hSw
    go_simp
  try simp only [Act.put, List.setIfInBounds_toArray, List.set_cons_zero, List.set_cons_succ]
  refine dshowC.isSetTake (i := 2) (d := 25) (v := .int .i64 (c0.toNat : Int)) rfl rfl (by kernel_rfl) (by kernel_rfl) (by kernel_rfl) (fun _ _ _ h => h) (by kernel_rfl) rfl (Or.inl ⟨by kernel_rfl, ?_⟩) hS0 ?_
  · intro wz hSw
    go_simp; try (exact IntWalk.i64_in _ (by omega))
  try simp only [Act.put, List.setIfInBounds_toArray, List.set_cons_zero, List.set_cons_succ]
  refine dshowC.isSetTake (i := 5) (d := 28) (v := .string s) rfl rfl (by kernel_rfl) (by kernel_rfl) (by kernel_rfl) (fun _ _ _ h => h) (by kernel_rfl) rfl (Or.inl ⟨by kernel_rfl, ?_⟩) hS0 ?_
  · intro wz hSw
    go_simp
  try simp only [Act.put, List.setIfInBounds_toArray, List.set_cons_zero, List.set_cons_succ]
  refine dshowC.isSetTake (i := 6) (d := 29) (v := .int .u8 (c1.toNat : Int)) rfl rfl (by kernel_rfl) (by kernel_rfl) (by kernel_rfl) (fun _ _ _ h => h) (by kernel_rfl) rfl (Or.inl ⟨by kernel_rfl, ?_⟩) hS0 ?_
  · intro wz hSw
    go_simp
  try simp only [Act.put, List.setIfInBounds_toArray, List.set_cons_zero, List.set_cons_succ]
  refine dshowC.isSetTake (i := 7) (d := 30) (v := .int .i64 (c1.toNat : Int)) rfl rfl (by kernel_rfl) (by kernel_rfl) (by kernel_rfl) (fun _ _ _ h => h) (by kernel_rfl) rfl (Or.inl ⟨by kernel_rfl, ?_⟩) hS0 ?_
  · intro wz hSw
    go_simp; try (exact IntWalk.i64_in _ (by omega))
  try simp only [Act.put, List.setIfInBounds_toArray, List.set_cons_zero, List.set_cons_succ]
  refine dshowC.isSetTake (i := 11) (d := 34) (v := .string s) rfl rfl (by kernel_rfl) (by kernel_rfl) (by kernel_rfl) (fun _ _ _ h => h) (by kernel_rfl) rfl (Or.inl ⟨by kernel_rfl, ?_⟩) hS0 ?_
  · intro wz hSw
    go_simp
  try simp only [Act.put, List.setIfInBounds_toArray, List.set_cons_zero, List.set_cons_succ]
  refine dshowC.isSetTake (i := 12) (d := 35) (v := .int .u8 (c2.toNat : Int)) rfl rfl (by kernel_rfl) (by kernel_rfl) (by kernel_rfl) (fun _ _ _ h => h) (by kernel_rfl) rfl (Or.inl ⟨by kernel_rfl, ?_⟩) hS0 ?_
  · intro wz hSw
    go_simp
  try simp only [Act.put, List.setIfInBounds_toArray, List.set_cons_zero, List.set_cons_succ]
  refine dshowC.isSetTake (i := 13) (d := 36) (v := .int .i64 (c2.toNat : Int)) rfl rfl (by kernel_rfl) (by kernel_rfl) (by kernel_rfl) (fun _ _ _ h => h) (by kernel_rfl) rfl (Or.inl ⟨by kernel_rfl, ?_⟩) hS0 ?_
  · intro wz hSw
    go_simp; try (exact IntWalk.i64_in _ (by omega))
  try simp only [Act.put, List.setIfInBounds_toArray, List.set_cons_zero, List.set_cons_succ]
  refine dshowC.isSetTake (i := 17) (d := 40) (v := .string s) rfl rfl (by kernel_rfl) (by kernel_rfl) (by kernel_rfl) (fun _ _ _ h => h) (by kernel_rfl) rfl (Or.inl ⟨by kernel_rfl, ?_⟩) hS0 ?_
  · intro wz hSw
    go_simp
  try simp only [Act.put, List.setIfInBounds_toArray, List.set_cons_zero, List.set_cons_succ]
  refine dshowC.isSetTake (i := 18) (d := 41) (v := .int .u8 (c3.toNat : Int)) rfl rfl (by kernel_rfl) (by kernel_rfl) (by kernel_rfl) (fun _ _ _ h => h) (by kernel_rfl) rfl (Or.inl ⟨by kernel_rfl, ?_⟩) hS0 ?_
  · intro wz hSw
    go_simp
  try simp only [Act.put, List.setIfInBounds_toArray, List.set_cons_zero, List.set_cons_succ]
  refine dshowC.isSetTake (i := 19) (d := 42) (v := .int .i64 (c3.toNat : Int)) rfl rfl (by kernel_rfl) (by kernel_rfl) (by kernel_rfl) (fun _ _ _ h => h) (by kernel_rfl) rfl (Or.inl ⟨by kernel_rfl, ?_⟩) hS0 ?_
  · intro wz hSw
    go_simp; try (exact IntWalk.i64_in _ (by omega))
  try simp only [Act.put, List.setIfInBounds_toArray, List.set_cons_zero, List.set_cons_succ]
  refine heldG.readyG (rs := [3]) (by kernel_rfl) (by simp) ?_
  refine heldG.AllG.cons rfl (fun KK hKK => ?_) heldG.AllG.nil
  go_simp
  refine (K0.out _ hS0).mono ?_
  rintro en w1 ⟨rfl, hS1⟩
  dsimp only
  refine hKK.out _ _ (fun _ => hS1) ?_; clear hKK KK
  try simp only [Act.put, List.setIfInBounds_toArray, List.set_cons_zero, List.set_cons_succ]
  refine dshowC.isSetTake (i := 4) (d := 27) (v := .string (T0 ++ ⟨#[46]⟩)) rfl rfl (by kernel_rfl) (by kernel_rfl) (by kernel_rfl) (fun _ _ _ h => h) (by kernel_rfl) rfl (Or.inl ⟨by kernel_rfl, ?_⟩) hS1 ?_
  · intro wz hSw
    go_simp; try omega
  try simp only [Act.put, List.setIfInBounds_toArray, List.set_cons_zero, List.set_cons_succ]
  refine heldG.readyG (rs := [8]) (by kernel_rfl) (by simp) ?_
  refine heldG.AllG.cons rfl (fun KK hKK => ?_) heldG.AllG.nil
  go_simp
  refine (K1.out _ hS1).mono ?_
  rintro en w2 ⟨rfl, hS2⟩
  dsimp only
  refine hKK.out _ _ (fun _ => hS2) ?_; clear hKK KK
  try simp only [Act.put, List.setIfInBounds_toArray, List.set_cons_zero, List.set_cons_succ]
  refine dshowC.isSetTake (i := 9) (d := 32) (v := .string (T0 ++ ⟨#[46]⟩ ++ T1)) rfl rfl (by kernel_rfl) (by kernel_rfl) (by kernel_rfl) (fun _ _ _ h => h) (by kernel_rfl) rfl (Or.inl ⟨by kernel_rfl, ?_⟩) hS2 ?_
  · intro wz hSw
    go_simp; try omega
  try simp only [Act.put, List.setIfInBounds_toArray, List.set_cons_zero, List.set_cons_succ]
  refine dshowC.isSetTake (i := 10) (d := 33) (v := .string (T0 ++ ⟨#[46]⟩ ++ T1 ++ ⟨#[46]⟩)) rfl rfl (by kernel_rfl) (by kernel_rfl) (by kernel_rfl) (fun _ _ _ h => h) (by kernel_rfl) rfl (Or.inl ⟨by kernel_rfl, ?_⟩) hS2 ?_
  · intro wz hSw
    go_simp; try omega
  try simp only [Act.put, List.setIfInBounds_toArray, List.set_cons_zero, List.set_cons_succ]
  refine heldG.readyG (rs := [14]) (by kernel_rfl) (by simp) ?_
  refine heldG.AllG.cons rfl (fun KK hKK => ?_) heldG.AllG.nil
  go_simp
  refine (K2.out _ hS2).mono ?_
  rintro en w3 ⟨rfl, hS3⟩
  dsimp only
  refine hKK.out _ _ (fun _ => hS3) ?_; clear hKK KK
  try simp only [Act.put, List.setIfInBounds_toArray, List.set_cons_zero, List.set_cons_succ]
  refine dshowC.isSetTake (i := 15) (d := 38) (v := .string (T0 ++ ⟨#[46]⟩ ++ T1 ++ ⟨#[46]⟩ ++ T2)) rfl rfl (by kernel_rfl) (by kernel_rfl) (by kernel_rfl) (fun _ _ _ h => h) (by kernel_rfl) rfl (Or.inl ⟨by kernel_rfl, ?_⟩) hS3 ?_
  · intro wz hSw
    go_simp; try omega
  try simp only [Act.put, List.setIfInBounds_toArray, List.set_cons_zero, List.set_cons_succ]
  refine dshowC.isSetTake (i := 16) (d := 39) (v := .string (T0 ++ ⟨#[46]⟩ ++ T1 ++ ⟨#[46]⟩ ++ T2 ++ ⟨#[46]⟩)) rfl rfl (by kernel_rfl) (by kernel_rfl) (by kernel_rfl) (fun _ _ _ h => h) (by kernel_rfl) rfl (Or.inl ⟨by kernel_rfl, ?_⟩) hS3 ?_
  · intro wz hSw
    go_simp; try omega
  try simp only [Act.put, List.setIfInBounds_toArray, List.set_cons_zero, List.set_cons_succ]
  refine heldG.readyG (rs := [20]) (by kernel_rfl) (by simp) ?_
  refine heldG.AllG.cons rfl (fun KK hKK => ?_) heldG.AllG.nil
  go_simp
  refine (K3.out _ hS3).mono ?_
  rintro en w4 ⟨rfl, hS4⟩
  dsimp only
  refine hKK.out _ _ (fun _ => hS4) ?_; clear hKK KK
  try simp only [Act.put, List.setIfInBounds_toArray, List.set_cons_zero, List.set_cons_succ]
  refine dshowC.isSetTake (i := 21) (d := 44) (v := .string (T0 ++ ⟨#[46]⟩ ++ T1 ++ ⟨#[46]⟩ ++ T2 ++ ⟨#[46]⟩ ++ T3)) rfl rfl (by kernel_rfl) (by kernel_rfl) (by kernel_rfl) (fun _ _ _ h => h) (by kernel_rfl) rfl (Or.inl ⟨by kernel_rfl, ?_⟩) hS4 ?_
  · intro wz hSw
    go_simp; try omega
  try simp only [Act.put, List.setIfInBounds_toArray, List.set_cons_zero, List.set_cons_succ]
  refine heldG.readyG (rs := [22]) (by kernel_rfl) (by simp) ?_
  refine heldG.AllG.cons rfl (fun KK hKK => ?_) heldG.AllG.nil
  go_simp
  have hS5 := Below.alloc hS4 hS4.size (.cells #[.string (T0 ++ ⟨#[46]⟩ ++ T1 ++ ⟨#[46]⟩ ++ T2 ++ ⟨#[46]⟩ ++ T3)] 9)
  refine hKK.out _ _ (fun _ => hS5) ?_; clear hKK KK
  try simp only [Act.put, List.setIfInBounds_toArray, List.set_cons_zero, List.set_cons_succ]
  refine dshowC.isSetTake (i := 23) (d := 4) (v := .slice (some ⟨w4.heap.size, 0, none⟩) 1 1) rfl rfl (by kernel_rfl) (by kernel_rfl) (by kernel_rfl) (fun _ _ _ h => h) (by kernel_rfl) rfl (Or.inl ⟨by kernel_rfl, ?_⟩) hS5 ?_
  · intro wz hSw
    go_simp
  try simp only [Act.put, List.setIfInBounds_toArray, List.set_cons_zero, List.set_cons_succ]
  refine heldG.doneG (by kernel_rfl) ?_ _
  go_wp2_with fail
  go_ret
  exact show_one hS4 HR.out _
set_option maxRecDepth 100000 in
set_option maxHeartbeats 2400000 in
theorem texts_f (s : ByteArray) (w : World) (hs : s.size ≤ 65535) (hok : OkP .texts s.data.toList) :
    Calls Tryz.prog 22 #[.int .u8 84, .string s] w (ShowPost w (showF .texts s.data.toList)) := by
  have HBA := Lib.hid (Below.refl w.heap.size w)
  obtain ⟨R, HR⟩ : ∃ R, Hid ([] ++ textsW s.data.toList = R) := ⟨_, Lib.hid rfl⟩
  have e0 : showF .texts s.data.toList = R := HR.out
  rw [e0]
  have HC := Lib.hid (chain_of hok)
  clear e0 hok
  go_enter Tryz.func22, Tryz.ntmps22
  go_wp2_with fail
  go_loopg [1, 5, 6] (s.size + 1) (fun gas dv ov _ wr => ∃ (u : ByteArray) (P : List Bs), dv = .string u ∧ u.size < gas ∧ P.length + u.size ≤ 65535 ∧ Hid (P ++ textsW u.data.toList = R) ∧ Hid (Chain u.data.toList) ∧ Hid (wr.ownsRow w.heap.size 9 1 ov P.length (P.map strV)) ∧ Hid (Below w.heap.size w wr))
  case atStart => exact ⟨s, [], rfl, by omega, by simpa using hs, HR, HC, Lib.hid (World.ownsRow_nil _ _ _ _), HBA⟩
  case round =>
    obtain ⟨u, P, rfl, hg, hP, HW, HCH, HO, HB⟩ := hrel
    have HG := Lib.hid hg; clear hg
    have hsz := HB.out.size
    by_cases h0 : 0 < u.size
    · have hne : u.toList.isEmpty = false := by
        rw [Lib.toList_data]
        cases hl : u.data.toList with
        | nil => rw [← size_len, hl] at h0; simp at h0
        | cons a b => rfl
      have hd := drop_cons u 0 h0
      obtain ⟨c, hc⟩ : ∃ c, u[0] = c := ⟨_, rfl⟩
      obtain ⟨r, hr⟩ : ∃ r, u.data.toList.drop (0 + 1) = r := ⟨_, rfl⟩
      rw [hc, hr, List.drop_zero] at hd
      have hrl : r.length + 1 = u.size := by rw [← size_len, hd, List.length_cons]
      have hch := HCH.out
      rw [hd] at hch
      obtain ⟨hcr, hch2⟩ := hch.cons
      have HST := Lib.hid (words_step HW.out hd)
      obtain ⟨n, hn⟩ : ∃ n, 1 + c.toNat = n := ⟨_, rfl⟩
      have hnu : n ≤ u.size := by omega
      have hn1 : 1 ≤ n := by omega
      obtain ⟨x, hx⟩ : ∃ x, u.extract 1 n = x := ⟨_, rfl⟩
      have hxd : x.data.toList = r.take c.toNat := by
        rw [← hx, Lib.extract_data, hd, ← hn, List.drop_succ_cons, List.drop_zero]
        rw [show 1 + c.toNat - 1 = c.toNat by omega]
      have hxs : x.size ≤ 65535 := by rw [← hx, ByteArray.size_extract]; omega
      have HVAL : Hid (1 + (c.toNat : Int) = (n : Int)) := Lib.hid (by omega)
      have hc256 := byte_lt c
      have h0i : (0 : Int) < (u.size : Int) := by omega
      obtain ⟨y, hy⟩ : ∃ y, u.extract n u.size = y := ⟨_, rfl⟩
      have hyd : y.data.toList = r.drop c.toNat := by
        rw [← hy, ext_end, hd, ← hn, Nat.add_comm 1, List.drop_succ_cons]
      have hys : y.size = u.size - n := by rw [← hy, ByteArray.size_extract]; omega
      have CS := Lib.hid (fun w => rquote_any x w (by omega))
      rw [hxd] at CS
      rw [← hyd] at HST hch2
      have HCH2 := Lib.hid hch2
      have HYS := Lib.hid hys
      obtain ⟨q, hq⟩ : ∃ q, quoteS (r.take c.toNat) = q := ⟨_, rfl⟩
      rw [hq] at CS HST
      have hni : 1 ≤ (n : Int) := by omega
      have hnui : (n : Int) ≤ (u.size : Int) := by omega
      clear hd hr hrl hch hch2 hcr hxd hyd hq hn hys
      go_upto_region 18 with fail
      rw [HVAL.out]
      go_wp2_with fail
      refine (CS.out _).mono ?_
      rintro e w2 ⟨rfl, hB2⟩
      have HB2 := Lib.hid (HB.out.trans (hB2.mono hsz))
      have HO2 := Lib.hid (own_below HO.out hB2)
      have hz2 := HB2.out.size
      clear hB2
      have hlv : ∀ w3, w3 = w2.alloc (.cells #[.string ⟨q.toArray⟩] 9) → LV w3 (.slice (some ⟨w2.heap.size, 0, none⟩) 1 1) w2.heap.size [q] := by
        rintro _ rfl
        obtain ⟨_, v, hv, h⟩ := show_one (Below.refl w2.heap.size w2) (x := q) (X := ⟨q.toArray⟩) rfl 9
        cases hv; exact h
      have HLV := Lib.hid hlv; clear hlv
      go_wp2_with (at_builtin; go_must (refine wpList_append_lv rfl _ _ rfl w.heap.size _ P rfl (own_below HO2.out ((Below.refl _ w2).alloc (Nat.le_refl _) _)) w2.heap.size [q] _ rfl (HLV.out _ rfl) ?c1 ?c2 ?_))
      case c1 => simp; omega
      case c2 => rw [World.size_alloc]; omega
      intro v' w3 hown' hgrow
      have HO3 : Hid (w3.ownsRow w.heap.size 9 1 v' (P ++ [q]).length ((P ++ [q]).map strV)) := Lib.hid (by simpa using hown')
      have HB3 := Lib.hid ((HB2.out.alloc hz2 (.cells #[.string ⟨q.toArray⟩] 9)).grown hgrow (by rw [World.size_alloc]; omega) (fun k hk => (HO2.out.lt k hk).1))
      clear hown' hgrow
      go_wp2_with fail
      have hg := HG.out
      have h2 := HYS.out
      go_roundg (gk - 1)
      case rel => exact ⟨y, P ++ [q], by first | rfl | (rw [hy]), by omega, by rw [List.length_append, List.length_singleton]; omega, HST, HCH2, HO3, HB3⟩
      case measure => omega
    · have hne : u.toList.isEmpty = true := by
        have : u.data.toList = [] := List.eq_nil_of_length_eq_zero (by rw [size_len]; omega)
        rw [Lib.toList_data, this]; rfl
      have HE : Hid (P = R) := Lib.hid (by
        have h := HW.out
        have h' : u.data.toList = [] := List.eq_nil_of_length_eq_zero (by rw [size_len]; omega)
        rw [h', textsW_nil, List.append_nil] at h; exact h)
      go_wp2_with fail
      go_ret
      exact ⟨HB.out, _, rfl, by rw [← HE.out]; exact LV.of_own HO.out⟩

set_option maxRecDepth 100000 in
set_option maxHeartbeats 2400000 in
theorem kinds_f (s : ByteArray) (w : World) (hs : s.size ≤ 65535) (hok : OkP .kinds s.data.toList) :
    Calls Tryz.prog 22 #[.int .u8 75, .string s] w (ShowPost w (showF .kinds s.data.toList)) := by
  have HBA := Lib.hid (Below.refl w.heap.size w)
  obtain ⟨l, hl⟩ := kinds_ok hok
  obtain ⟨R, HR⟩ : ∃ R, Hid ([] ++ (l.drop 0).map tnW = R) := ⟨_, Lib.hid rfl⟩
  have e0 : showF .kinds s.data.toList = R := by rw [showF, hl, ← HR.out]; rfl
  rw [e0]
  obtain ⟨n, hn⟩ : ∃ n, l.length = n := ⟨_, rfl⟩
  have hnb : n ≤ 524280 := by have := types_count hl; rw [size_len] at this; omega
  have HLT := Lib.hid (types_lt hl)
  have CT := Lib.hid (fun w => typesR.rtypes_any s w (by omega))
  have HL := Lib.hid hl; have HN := Lib.hid hn
  clear e0 hok hl hn
  go_enter Tryz.func22, Tryz.ntmps22
  go_wp2_with fail
  refine (CT.out _).mono ?_
  rintro e w1 ⟨hB1, ⟨v, l', hl', rfl, hown⟩ | ⟨hl', _⟩⟩
  case inr => rw [HL.out] at hl'; cases hl'
  obtain rfl : l = l' := Option.some.inj (HL.out.symm.trans hl')
  obtain ⟨a, c, rfl, hc1, hc2, hrd⟩ := RdN.of_own hown
  rw [HN.out] at hc1 ⊢
  have HRD := Lib.hid hrd
  have HB1 := Lib.hid (HBA.out.trans (hB1.mono HBA.out.size))
  have hz1 := HB1.out.size
  clear hB1 hown hrd hl'
  go_wp2_with fail
  go_loopg [9, 11, 111] (n + 1) (fun gas ov _ kv wr => ∃ (k : Nat) (P : List Bs), kv = .int .i64 k ∧ k ≤ n ∧ k + gas = n + 1 ∧ P.length = k ∧ Hid (P ++ (l.drop k).map tnW = R) ∧ Hid (wr.ownsRow w1.heap.size 9 1 ov P.length (P.map strV)) ∧ Hid (Below w1.heap.size w1 wr))
  case atStart => exact ⟨0, [], rfl, by omega, by omega, rfl, HR, Lib.hid (World.ownsRow_nil _ _ _ _), Lib.hid (Below.refl _ _)⟩
  case round =>
    obtain ⟨k, P, rfl, hk, hkg, hPl, HW, HO, HB⟩ := hrel
    have HKG := Lib.hid hkg; clear hkg
    have hsz := HB.out.size
    by_cases hlt : k < n
    · obtain ⟨t, ht⟩ : ∃ t, l[k]? = some t := ⟨_, List.getElem?_eq_getElem (by have := HN.out; omega)⟩
      obtain ⟨g, o, rfl, hg, hcell0⟩ := HRD.out k t ht
      have hcell := (HB.out.cell (p := ⟨g, o + k, none⟩) hg).trans hcell0
      unfold bitV at hcell
      have htb := HLT.out t (List.mem_of_getElem? ht)
      have HST := Lib.hid (map_step HW.out ht)
      have HBW := Lib.hid (HB1.out.trans (HB.out.mono hz1))
      have CN := Lib.hid (rtname_any (t : Int) wr)
      have e1 : tnameS (t : Int) = tnW t := rfl
      rw [e1] at CN
      have hk0 : 0 ≤ (k : Int) := by omega
      obtain ⟨q, hq⟩ : ∃ q, tnW t = q := ⟨_, rfl⟩
      rw [hq] at CN HST
      clear hcell0 ht e1 hq
      go_wp2_with fail
      refine CN.out.mono ?_
      rintro e w2 ⟨rfl, hB2⟩
      have HB2 := Lib.hid (HB.out.trans (hB2.mono hsz))
      have HO2 := Lib.hid (own_below HO.out hB2)
      have hz2 := HB2.out.size
      clear hB2
      have hlv : ∀ w3, w3 = w2.alloc (.cells #[.string ⟨q.toArray⟩] 9) → LV w3 (.slice (some ⟨w2.heap.size, 0, none⟩) 1 1) w2.heap.size [q] := by
        rintro _ rfl
        obtain ⟨_, v, hv, h⟩ := show_one (Below.refl w2.heap.size w2) (x := q) (X := ⟨q.toArray⟩) rfl 9
        cases hv; exact h
      have HLV := Lib.hid hlv; clear hlv
      go_wp2_with (at_builtin; go_must (refine wpList_append_lv rfl _ _ rfl w1.heap.size _ P rfl (own_below HO2.out ((Below.refl _ w2).alloc (Nat.le_refl _) _)) w2.heap.size [q] _ rfl (HLV.out _ rfl) ?c1 ?c2 ?_))
      case c1 => simp; omega
      case c2 => rw [World.size_alloc]; omega
      intro v' w3 hown' hgrow
      have HO3 : Hid (w3.ownsRow w1.heap.size 9 1 v' (P ++ [q]).length ((P ++ [q]).map strV)) := Lib.hid (by
        have e : (P ++ [q]).length = k + 1 := by rw [List.length_append, List.length_singleton, hPl]
        rw [e]; simpa using hown')
      have HB3 := Lib.hid ((HB2.out.alloc hz2 (.cells #[.string ⟨q.toArray⟩] 9)).grown hgrow (by rw [World.size_alloc]; omega) (fun k hk => (HO2.out.lt k hk).1))
      clear hown' hgrow
      go_wp2_with fail
      have hkg := HKG.out
      go_roundg (gk - 1)
      case rel => exact ⟨k + 1, P ++ [q], by go_num, by omega, by omega, by rw [List.length_append, List.length_singleton]; omega, HST, HO3, HB3⟩
      case measure => omega
    · have HE := Lib.hid (map_end HW.out (by have := HN.out; omega))
      go_wp2_with fail
      go_ret
      exact ⟨HB1.out.trans (HB.out.mono hz1), _, rfl, by rw [← HE.out]; exact (LV.of_own HO.out).mono hz1⟩
end Go.Proofs.YtjejmgdpjfdhjaaGreatDoor.rfield
namespace Go.Proofs.YtjejmgdpjfdhjaaGreatDoor.joinW
open Go.RowKit Go.Proofs.YtjejmgdpjfdhjaaGreatDoor.kit Go.Proofs.YtjejmgdpjfdhjaaGreatDoor.nspec Go.Proofs.YtjejmgdpjfdhjaaGreatDoor.bld Go.Proofs.YtjejmgdpjfdhjaaGreatDoor.dshow Go.Proofs.YtjejmgdpjfdhjaaGreatDoor.rsplit Go.Proofs.YtjejmgdpjfdhjaaGreatDoor.dshowA Go.Proofs.YtjejmgdpjfdhjaaGreatDoor.dshowB
set_option linter.unusedVariables false

theorem tot_drop {ls : List Bs} {k : Nat} {x : Bs} (h : ls[k]? = some x) : totW (ls.drop k) = x.length + 1 + totW (ls.drop (k + 1)) := by
  obtain ⟨h1, h2⟩ := List.getElem?_eq_some_iff.1 h
  rw [List.drop_eq_getElem_cons h1, h2, totW_cons]
theorem flat_go {A R x : Bs} {r : List Bs} {k : Nat} (h : A ++ (r.drop k).flatMap (fun y => (32 : UInt8) :: y) = R) (hx : r[k]? = some x) : ((A ++ [32]) ++ x) ++ (r.drop (k + 1)).flatMap (fun y => (32 : UInt8) :: y) = R := by
  obtain ⟨h1, h2⟩ := List.getElem?_eq_some_iff.1 hx
  rw [List.drop_eq_getElem_cons h1, h2] at h
  rw [← h]; simp
set_option maxRecDepth 100000 in
set_option maxHeartbeats 4000000 in
theorem join_many (ls : List Bs) (g c : Nat) (w : World) (n : Nat) (hn : ls.length = n) (h2 : 2 ≤ n) (hc : n ≤ c) (hcm : c ≤ maxLen) (hg : g < w.heap.size) (hcell : ∀ (j : Nat) (x : Bs), ls[j]? = some x → w.cell? ⟨g, j, none⟩ = some (strV x)) (ht : totW ls ≤ 1099511627776) :
    Calls Tryz.prog 16 #[.slice (some ⟨g, 0, none⟩) n c, .string ⟨#[32]⟩] w fun e w' => e = .returned (.string ⟨(joinS ls).toArray⟩) ∧ Below w.heap.size w w' := by
  obtain ⟨x0, r, hls⟩ : ∃ x0 r, ls = x0 :: r := by
    cases ls with
    | nil => simp at hn; omega
    | cons a t => exact ⟨a, t, rfl⟩
  obtain ⟨R, HR⟩ : ∃ R, Hid (x0 ++ (r.drop 0).flatMap (fun y => (32 : UInt8) :: y) = R) := ⟨_, Lib.hid rfl⟩
  have e0 : joinS ls = R := by rw [hls, ← HR.out]; rfl
  have hRl : R.length ≤ 1099511627776 := by rw [← e0]; exact Nat.le_trans (join_len ls) ht
  rw [e0]
  obtain ⟨m, hm⟩ : ∃ m, n = m + 1 := ⟨n - 1, by omega⟩
  subst hm
  have hrl : r.length = m := by rw [hls] at hn; simpa using hn
  have hx0 : ls[0]? = some x0 := by rw [hls]; rfl
  have hxr : ∀ k x, r[k]? = some x → ls[k + 1]? = some x := fun k x h => by rw [hls]; simpa using h
  have hcnt := totW_count ls
  rw [hn] at hcnt
  have HLS := Lib.hid hls; have HN := Lib.hid hn; have HCELL := Lib.hid hcell; have HRL := Lib.hid hrl; have HX0 := Lib.hid hx0; have HXR := Lib.hid hxr
  have HT : Hid (m + totW (ls.drop 0) ≤ 2199023255552) := Lib.hid (by rw [List.drop_zero]; omega)
  unfold maxLen at hcm
  have hm1 : 1 ≤ (m : Int) := by omega
  have hmb : (m : Int) ≤ 1099511627776 := by omega
  have hdv : ¬ (9223372036854775807 / (m : Int) ≤ 1) := by
    have := Int.le_ediv_of_mul_le (a := 2) (b := 9223372036854775807) (c := (m : Int)) (by omega) (by omega)
    omega
  have hc1 : (1 : Int) < (c : Int) := by omega
  have hci : (m : Int) + 1 ≤ (c : Int) := by omega
  clear e0 hn hls hcell hrl hx0 hxr ht hcnt
  go_enter Tryz.func16, Tryz.ntmps16
  go_wp2_with fail
  go_loopg [5, 7, 41] (m + 2) (fun gas av _ kv wr => ∃ (k A : Nat), kv = .int .i64 k ∧ av = .int .i64 A ∧ k ≤ m + 1 ∧ k + gas = m + 2 ∧ Hid (A + totW (ls.drop k) ≤ 2199023255552) ∧ A ≤ 2199023255552 ∧ w = wr)
  case atStart => exact ⟨0, m, rfl, by first | rfl | go_num, by omega, by omega, HT, by omega, rfl⟩
  case round =>
    obtain ⟨k, A, rfl, rfl, hk, hkg, HTK, hA, rfl⟩ := hrel
    have HKG := Lib.hid hkg; clear hkg
    by_cases hkn : k < m + 1
    · obtain ⟨x, hx⟩ : ∃ x, ls[k]? = some x := ⟨_, List.getElem?_eq_getElem (by have := HN.out; omega)⟩
      have hcl := HCELL.out k x hx
      unfold strV at hcl
      obtain ⟨X, hX⟩ : ∃ X : ByteArray, (⟨x.toArray⟩ : ByteArray) = X := ⟨_, rfl⟩
      have hXs : X.size = x.length := by rw [← hX, mk_size]
      rw [hX] at hcl
      have HT2 : Hid (A + X.size + totW (ls.drop (k + 1)) ≤ 2199023255552) := Lib.hid (by have h := HTK.out; rw [tot_drop hx] at h; omega)
      have hb : A + X.size ≤ 2199023255552 := by have := HT2.out; omega
      clear hX hXs hx
      go_wp2_with fail
      have hkg := HKG.out
      go_roundg (gk - 1)
      case rel => exact ⟨k + 1, A + X.size, by go_num, by go_num, by omega, by omega, HT2, hb, rfl⟩
      case measure => omega
    · have hke : k = m + 1 := by omega
      subst hke
      have hGB := Lib.hid ((Below.refl w.heap.size w).alloc (Nat.le_refl _) (.cells #[.pointer none, .slice none 0 0] 53))
      have CG := Lib.hid (Tryz.Builder_Grow_fresh w.heap.size w.heap.size A (w.alloc (.cells #[.pointer none, .slice none 0 0] 53)) (Nat.le_refl _) (heap_alloc_new w _) (by simp) (by omega))
      go_wp2_with fail
      refine CG.out.mono ?_
      rintro e w1 ⟨rfl, h1, hb1⟩
      have HB1 := Lib.hid (hGB.out.trans hb1)
      have HA1 : Hid (Bld w.heap.size w.heap.size [] w1) := Lib.hid (Or.inr h1)
      clear hb1 h1
      have hcl0 := (HB1.out.cell (p := ⟨g, 0, none⟩) hg).trans (HCELL.out 0 x0 HX0.out)
      unfold strV at hcl0
      obtain ⟨X, hX⟩ : ∃ X : ByteArray, (⟨x0.toArray⟩ : ByteArray) = X := ⟨_, rfl⟩
      have hXd : X.data.toList = x0 := by rw [← hX]
      rw [hX] at hcl0
      have hR0 := HR.out
      have hXl : X.size ≤ R.length := by rw [← hR0, List.length_append, ← hXd, size_len]; omega
      have CW := Lib.hid (ws w.heap.size w.heap.size [] X w1 HA1.out (by simp; omega) HB1.out.size)
      rw [hXd] at CW
      clear hX hXd hR0
      go_wp2_with fail
      refine CW.out.mono ?_
      rintro e w2 ⟨rfl, hb2, hE2⟩
      have HB2 := Lib.hid (HB1.out.trans hE2)
      have HA2 : Hid (Bld w.heap.size w.heap.size x0 w2) := Lib.hid (by simpa using hb2)
      clear hE2 hb2 hcl0
      go_wp2_with fail
      go_loopg [10, 65] (m + 1) (fun gas _ kv wr => ∃ (k : Nat) (C : Bs), kv = .int .i64 k ∧ k ≤ m ∧ k + gas = m + 1 ∧ Hid (C ++ (r.drop k).flatMap (fun y => (32 : UInt8) :: y) = R) ∧ Hid (Bld w.heap.size w.heap.size C wr) ∧ Hid (Below w.heap.size w wr))
      case atStart => exact ⟨0, x0, rfl, by omega, by omega, HR, HA2, HB2⟩
      case round =>
        obtain ⟨k, C, rfl, hk, hkg, HW, HA, HB⟩ := hrel
        have HKG2 := Lib.hid hkg; clear hkg
        have hsz := HB.out.size
        by_cases hkm : k < m
        · obtain ⟨y, hy⟩ : ∃ y, r[k]? = some y := ⟨_, List.getElem?_eq_getElem (by have := HRL.out; omega)⟩
          have hcl := (HB.out.cell (p := ⟨g, k + 1, none⟩) hg).trans (HCELL.out (k + 1) y (HXR.out k y hy))
          rw [Nat.add_comm k 1] at hcl
          unfold strV at hcl
          obtain ⟨Y, hY⟩ : ∃ Y : ByteArray, (⟨y.toArray⟩ : ByteArray) = Y := ⟨_, rfl⟩
          have hYd : Y.data.toList = y := by rw [← hY]
          rw [hY] at hcl
          have HST := Lib.hid (flat_go HW.out hy)
          rw [← hYd] at HST
          have hCl : C.length + 1 + Y.size ≤ R.length := by rw [← HST.out]; simp; omega
          have hCl2 : C.length + 1 ≤ R.length := by omega
          have CS := Lib.hid (ws w.heap.size w.heap.size C ⟨#[32]⟩ wr HA.out (by have : (⟨#[32]⟩ : ByteArray).size = 1 := rfl; omega) hsz)
          clear hY hYd hy
          go_wp2_with fail
          refine CS.out.mono ?_
          rintro e w3 ⟨rfl, hb3, hE3⟩
          have HB3 := Lib.hid (HB.out.trans hE3)
          have HA3 : Hid (Bld w.heap.size w.heap.size (C ++ [32]) w3) := Lib.hid hb3
          have hsz3 := HB3.out.size
          have CY := Lib.hid (ws w.heap.size w.heap.size (C ++ [32]) Y w3 HA3.out (by rw [List.length_append, List.length_singleton]; omega) hsz3)
          clear hE3 hb3 hcl
          go_wp2_with fail
          refine CY.out.mono ?_
          rintro e w4 ⟨rfl, hb4, hE4⟩
          have HB4 := Lib.hid (HB3.out.trans hE4)
          have HA4 := Lib.hid hb4
          clear hE4 hb4
          go_wp2_with fail
          have hkg := HKG2.out
          go_roundg (gk - 1)
          case rel => exact ⟨k + 1, _, by go_num, by omega, by omega, HST, HA4, HB4⟩
          case measure => omega
        · have hke : k = m := by omega
          have HE : Hid (C = R) := Lib.hid (by
            have h := HW.out
            rw [List.drop_eq_nil_iff.2 (by have := HRL.out; omega)] at h
            simpa using h)
          rw [HE.out] at HA
          subst hke
          go_wp2_with fail
          refine (Tryz.Builder_String_any _ _ R _ HA.out hsz).mono ?_
          rintro e w5 ⟨rfl, hE5⟩
          have HB5 := Lib.hid (HB.out.trans hE5)
          clear hE5
          go_wp2_with fail
          go_ret
          exact ⟨rfl, HB5.out⟩
set_option maxRecDepth 100000 in
set_option maxHeartbeats 1000000 in
theorem join_any (ls : List Bs) (v : Value) (base : Nat) (w : World) (hlv : LV w v base ls) (ht : totW ls ≤ 1099511627776) :
    Calls Tryz.prog 16 #[v, .string ⟨#[32]⟩] w fun e w' => e = .returned (.string ⟨(joinS ls).toArray⟩) ∧ Below w.heap.size w w' := by
  have none : ∀ a c, Calls Tryz.prog 16 #[.slice a 0 c, .string ⟨#[32]⟩] w fun e w' => e = .returned (.string ⟨#[]⟩) ∧ Below w.heap.size w w' := by
    intro a c
    go_enter Tryz.func16, Tryz.ntmps16
    go_wp2_with fail
    go_ret
    exact ⟨rfl, Below.refl _ _⟩
  rcases hlv with ⟨rfl, rfl⟩ | ⟨g, c, rfl, h1, h2, h3, h4, h5⟩
  · exact none _ _
  · match ls, h1, h5, ht with
    | [], _, _, _ => exact none _ _
    | [x], _, h5, _ =>
      have hc := h5 0 x rfl
      have e0 : joinS [x] = x := by simp [joinS]
      rw [e0]
      unfold strV at hc
      clear h5
      show Calls Tryz.prog 16 #[.slice (some ⟨g, 0, Option.none⟩) 1 c, .string ⟨#[32]⟩] w _
      go_enter Tryz.func16, Tryz.ntmps16
      go_wp2_with fail
      go_ret
      exact ⟨rfl, Below.refl _ _⟩
    | x :: y :: r, h1, h5, ht => exact join_many (x :: y :: r) g c w _ rfl (by simp) h1 h2 h4 h5 ht
end Go.Proofs.YtjejmgdpjfdhjaaGreatDoor.joinW
namespace Go.Proofs.YtjejmgdpjfdhjaaGreatDoor.rnames
open Go.RowKit Go.Proofs.YtjejmgdpjfdhjaaGreatDoor.kit Go.Proofs.YtjejmgdpjfdhjaaGreatDoor.nspec Go.Proofs.YtjejmgdpjfdhjaaGreatDoor.rsplit Go.Proofs.YtjejmgdpjfdhjaaGreatDoor.fld Go.Proofs.YtjejmgdpjfdhjaaGreatDoor.takes Go.Proofs.YtjejmgdpjfdhjaaGreatDoor.hostT Go.Proofs.YtjejmgdpjfdhjaaGreatDoor.splitD Go.Proofs.YtjejmgdpjfdhjaaGreatDoor.rsize Go.Proofs.YtjejmgdpjfdhjaaGreatDoor.rform Go.Proofs.YtjejmgdpjfdhjaaGreatDoor.parts Go.Proofs.YtjejmgdpjfdhjaaGreatDoor.checkData Go.Proofs.YtjejmgdpjfdhjaaGreatDoor.dnames
set_option linter.unusedVariables false

theorem check_holds {t : Int} {d : Bs} (hc : checkS t d = 0) : holdsB t = true := by
  unfold checkS at hc
  split at hc
  · simp at hc
  · rename_i h; cases hb : holdsB t with
    | true => rfl
    | false => exact absurd hb h
/-- the letter of a field, in the form's text -/
theorem letter_at {fs : List Fld} {F : ByteArray} (hF : F.data.toList = lettersB fs) (h4 : Fair4 fs) {k : Nat} {f : Fld} (hf : fs[k]? = some f) : ∃ (h : k < F.size), ((F[k].toNat : Int) == 110) = isHost f := by
  have hk : k < F.size := by
    have := (List.getElem?_eq_some_iff.1 hf).1
    rw [← size_len, hF]; simp [lettersB]; exact this
  refine ⟨hk, ?_⟩
  have h1 : F.data.toList[k]? = some (UInt8.ofNat (letterOf f)) := by rw [hF]; simp [lettersB, hf]
  have h2 := at_some hk (rfl : F[k] = F[k])
  rw [h1] at h2
  have h3 : UInt8.ofNat (letterOf f) = F[k] := by simpa using h2
  rw [← h3]
  cases f with
  | num j => rcases h4.2 j (List.mem_of_getElem? hf) with h | h | h <;> subst h <;> decide
  | _ => decide

end Go.Proofs.YtjejmgdpjfdhjaaGreatDoor.rnames
namespace Go.Proofs.YtjejmgdpjfdhjaaGreatDoor.rows
open Go.RowKit Go.Proofs.YtjejmgdpjfdhjaaGreatDoor.kit Go.Proofs.YtjejmgdpjfdhjaaGreatDoor.timed Go.Proofs.YtjejmgdpjfdhjaaGreatDoor.nspec Go.Proofs.YtjejmgdpjfdhjaaGreatDoor.wireP Go.Proofs.YtjejmgdpjfdhjaaGreatDoor.wireM
set_option linter.unusedVariables false

theorem addr_at (g o k : Nat) : (⟨g, o, none⟩ : Addr).add k = ⟨g, o + k, none⟩ := by unfold Addr.add; split <;> simp_all
theorem flat_len {α : Type} (f : α → List Value) (n : Nat) (hf : ∀ x, (f x).length = n) : ∀ L : List α, (L.flatMap f).length = L.length * n
  | [] => by simp
  | x :: L => by rw [List.flatMap_cons, List.length_append, flat_len f n hf L, hf, List.length_cons, Nat.succ_mul]; omega
theorem flat_at {α : Type} (f : α → List Value) (n : Nat) (hf : ∀ x, (f x).length = n) : ∀ (L : List α) (j : Nat) (x : α) (i : Nat) (u : Value), L[j]? = some x → (f x)[i]? = some u → (L.flatMap f)[j * n + i]? = some u
  | [], j, x, i, u, h, _ => by simp at h
  | y :: L, 0, x, i, u, h, hu => by
    simp at h; subst h
    rw [List.flatMap_cons, Nat.zero_mul, Nat.zero_add, List.getElem?_append_left (List.getElem?_eq_some_iff.1 hu).1]; exact hu
  | y :: L, j + 1, x, i, u, h, hu => by
    rw [List.flatMap_cons, List.getElem?_append_right (by rw [hf, Nat.succ_mul]; omega), hf, show (j + 1) * n + i - n = j * n + i by rw [Nat.succ_mul]; omega]
    exact flat_at f n hf L j x i u (by simpa using h) hu
/-- a row of one's own reads as its rows -/
theorem rdc_own {α : Type} (f : α → List Value) (m : Nat) (hf : ∀ x, (f x).length = m) {w : World} {base : Nat} {e : TypeId} {v : Value} {L : List α} {n : Nat} (hn : n = L.length) (h : w.ownsRow base e m v n (L.flatMap f)) :
    ∃ a c, v = .slice a n c ∧ n ≤ c ∧ c ≤ maxLen ∧ (a = none → n = 0 ∧ c = 0) ∧ RdC w a m (L.map f) := by
  subst hn
  rcases h.2 with ⟨rfl, h0⟩ | ⟨g, cap, cur, rfl, hb, hg, h1, h2, _, htake⟩
  · have : L = [] := List.eq_nil_of_length_eq_zero h0
    subst this
    exact ⟨none, 0, rfl, Nat.le_refl _, Nat.zero_le _, fun _ => ⟨rfl, rfl⟩, RdC.nil _ _ _⟩
  · refine ⟨_, cap, rfl, h1, h2, (fun h => by cases h), ?_⟩
    intro j x hx
    rw [List.getElem?_map] at hx
    obtain ⟨y, hy, rfl⟩ := Option.map_eq_some_iff.1 hx
    refine ⟨hf y, g, 0, rfl, (Array.getElem?_eq_some_iff.1 hg).1, fun i u hu => ?_⟩
    have := h.cells (g := g) rfl (j * m + i) u (flat_at f m hf L j y i u hy hu)
    rw [addr_at] at this
    rw [Nat.add_assoc]
    exact this
/-- rows that can be read, as the cells that an append takes -/
theorem cells_rd {α : Type} (f : α → List Value) (m : Nat) (hm : 0 < m) (hf : ∀ x, (f x).length = m) {w : World} {a : Option Addr} {L : List α} (h : RdC w a m (L.map f)) (c : Nat) (hc : a = none → L.length = 0 ∧ c = 0) : (a = none ∧ L.length = 0 ∧ c = 0) ∨ ∃ ad, a = some ad ∧ ∀ (j : Nat) (u : Value), (L.flatMap f)[j]? = some u → w.cell? (ad.add j) = some u := by
  cases a with
  | none => exact .inl ⟨rfl, hc rfl⟩
  | some ad =>
    right
    refine ⟨ad, rfl, fun j u hj => ?_⟩
    have hl : j < L.length * m := by rw [← flat_len f m hf]; exact (List.getElem?_eq_some_iff.1 hj).1
    have hdiv : j / m < L.length := (Nat.div_lt_iff_lt_mul hm).2 hl
    have hmod : j % m < m := Nat.mod_lt _ hm
    have hjm : j / m * m + j % m = j := by rw [Nat.mul_comm]; exact Nat.div_add_mod j m
    obtain ⟨x, hx⟩ : ∃ x, L[j / m]? = some x := ⟨_, List.getElem?_eq_getElem hdiv⟩
    obtain ⟨_, g, o, h1, _, h3⟩ := h (j / m) (f x) (by rw [List.getElem?_map, hx]; rfl)
    cases h1
    obtain ⟨u', hu'⟩ : ∃ u', (f x)[j % m]? = some u' := ⟨_, List.getElem?_eq_getElem (by rw [hf]; exact hmod)⟩
    have h4 := flat_at f m hf L (j / m) x (j % m) u' hx hu'
    rw [hjm] at h4
    rw [h4] at hj; cases hj
    have h5 := h3 _ _ hu'
    rw [Nat.add_assoc, hjm] at h5
    rw [addr_at]; exact h5
theorem one_cells {α : Type} {f : α → List Value} {L : List α} (h : ∀ x u, u ∈ f x → u.oneCell' = true) : ∀ u ∈ L.flatMap f, u.oneCell' = true := by
  intro u hu
  obtain ⟨x, _, hx⟩ := List.mem_flatMap.1 hu
  exact h x u hx
theorem rec_one (x : Rc) (u : Value) (h : u ∈ x.cells) : u.oneCell' = true := by
  simp only [Rc.cells, List.mem_cons, List.not_mem_nil, or_false] at h
  rcases h with rfl | rfl | rfl | rfl | rfl <;> rfl
theorem qn_one (x : Qn) (u : Value) (h : u ∈ x.cells) : u.oneCell' = true := by
  simp only [Qn.cells, List.mem_cons, List.not_mem_nil, or_false] at h
  rcases h with rfl | rfl | rfl <;> rfl
theorem infoRec : (Tryz.prog.info? 47).map (fun i => (i.zero, i.size, i.bytes)) = some (some (.agg #[.string ByteArray.empty, .int .i64 0, .int .i64 0, .int .i64 0, .string ByteArray.empty]), 5, 56) := by kernel_rfl
theorem row_neG {w : World} {b0 : Nat} {e : TypeId} {size : Nat} {v : Value} {n : Nat} {xs : List Value} (h : w.ownsRow b0 e size v n xs) {k : Nat} {o : Obj} (hk : w.heap[k]? = some o) (hn : ∀ cur f, o ≠ .cells cur e f) : some k ≠ v.ownBlock := by
  intro e
  rcases h.2 with ⟨rfl, _⟩ | ⟨g, cap, cur, rfl, hb, hg, _⟩
  · cases e
  · simp only [Value.ownBlock, Option.some.injEq] at e
    subst e
    rw [hg] at hk; cases hk
    exact hn _ _ rfl
theorem row_lowG {w : World} {b0 : Nat} {e : TypeId} {size : Nat} {v : Value} {n : Nat} {xs : List Value} (h : w.ownsRow b0 e size v n xs) {k : Nat} (hk : k < b0) : some k ≠ v.ownBlock := by
  intro e
  rcases h.2 with ⟨rfl, _⟩ | ⟨g, cap, cur, rfl, hb, hg, _⟩
  · cases e
  · simp only [Value.ownBlock, Option.some.injEq] at e; omega
theorem own_keptG {w w1 : World} {b0 : Nat} {e : TypeId} {size : Nat} {v : Value} {n : Nat} {xs : List Value} (h : w.ownsRow b0 e size v n xs) (hk : ∀ (k : Nat) (cur : Array Value), w.heap[k]? = some (Obj.cells cur e (0, 0)) → w1.heap[k]? = some (Obj.cells cur e (0, 0))) : w1.ownsRow b0 e size v n xs := by
  refine ⟨h.1, ?_⟩
  rcases h.2 with h1 | ⟨g, cap, cur, h1, h2, h3, h4⟩
  · exact .inl h1
  · exact .inr ⟨g, cap, cur, h1, h2, hk _ _ h3, h4⟩
theorem own_at {w : World} {base : Nat} {e : TypeId} {v : Value} {n size : Nat} {xs : List Value} (h : w.ownsRow base e size v n xs) (hn : 1 ≤ n) : ∃ g cap, v = .slice (some ⟨g, 0, none⟩) n cap ∧ base ≤ g ∧ g < w.heap.size ∧ (∀ j, j < n * size → ∃ u, w.cell? ⟨g, j, none⟩ = some u) ∧ (∀ j, w.frozen? ⟨g, j, none⟩ = false) ∧ ∃ cur, w.heap[g]? = some (.cells cur e (0, 0)) := by
  rcases h.2 with ⟨_, h0⟩ | ⟨g, cap, cur, rfl, hb, hg, h1, h2, _, _⟩
  · omega
  · refine ⟨g, cap, rfl, hb, (Array.getElem?_eq_some_iff.1 hg).1, fun j hj => ?_, fun j => by simp [World.frozen?, hg], cur, hg⟩
    have hl : j < xs.length := by rw [h.1]; exact hj
    refine ⟨xs[j], ?_⟩
    have := h.cells (g := g) rfl j xs[j] (List.getElem?_eq_getElem hl)
    rw [addr_at, Nat.zero_add] at this; exact this
end Go.Proofs.YtjejmgdpjfdhjaaGreatDoor.rows
