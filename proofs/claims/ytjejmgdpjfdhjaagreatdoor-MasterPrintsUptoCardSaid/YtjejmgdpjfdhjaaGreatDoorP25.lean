/- gazetteerref2.Print: walk. gazetteersame: Spare, Twin, Bytes, Records, Questions, Head on equal things: walks. -/
import Derived.Test.YtjejmgdpjfdhjaaGreatDoorP24
import Derived.Test.YtjejmgdpjfdhjaaGreatDoorP21
import Derived.Test.YtjejmgdpjfdhjaaGreatDoorP16
import Derived.Deep.QuietTactic
import Derived.BigQuiet
import Derived.Deep.AppendLies
namespace Go.Proofs.YtjejmgdpjfdhjaaGreatDoor.rprintW
open Go.RowKit Go.Proofs.YtjejmgdpjfdhjaaGreatDoor.kit Go.Proofs.YtjejmgdpjfdhjaaGreatDoor.nspec Go.Proofs.YtjejmgdpjfdhjaaGreatDoor.bld Go.Proofs.YtjejmgdpjfdhjaaGreatDoor.rsplit Go.Proofs.YtjejmgdpjfdhjaaGreatDoor.fld Go.Proofs.YtjejmgdpjfdhjaaGreatDoor.tname Go.Proofs.YtjejmgdpjfdhjaaGreatDoor.dshow Go.Proofs.YtjejmgdpjfdhjaaGreatDoor.dshowB Go.Proofs.YtjejmgdpjfdhjaaGreatDoor.timed Go.Proofs.YtjejmgdpjfdhjaaGreatDoor.wireP Go.Proofs.YtjejmgdpjfdhjaaGreatDoor.wireM Go.Proofs.YtjejmgdpjfdhjaaGreatDoor.zon2 Go.Proofs.YtjejmgdpjfdhjaaGreatDoor.rel Go.Proofs.YtjejmgdpjfdhjaaGreatDoor.printP Go.Proofs.YtjejmgdpjfdhjaaGreatDoor.showB
set_option linter.unusedVariables false

/-- the owner ahead of the k-th -/
def prevS (L : List Rc) (k : Nat) : Bs := if k = 0 then [] else match L[k - 1]? with | some p => p.o.data.toList | none => []
theorem prev_zero (L : List Rc) : prevS L 0 = [] := rfl
theorem prev_succ {L : List Rc} {k : Nat} {x : Rc} (h : L[k]? = some x) : prevS L (k + 1) = x.o.data.toList := by
  unfold prevS; rw [if_neg (by omega), Nat.add_sub_cancel, h]
theorem prev_at {L : List Rc} {k : Nat} {p : Rc} (hk : k ≠ 0) (h : L[k - 1]? = some p) : prevS L k = p.o.data.toList := by
  unfold prevS; rw [if_neg hk, h]
theorem zon_parts {x : Rc} (h : zonB x = true) : (split x.o.data.toList).isSome = true ∧ x.c = 1 ∧ 0 ≤ x.l ∧ x.l ≤ 2147483647 ∧ checkS x.t x.d.data.toList = 0 := by
  unfold zonB isB at h
  simp only [Bool.and_eq_true, decide_eq_true_eq] at h
  exact h
theorem sum_sizes (T1 T2 D : ByteArray) : (⟨#[9]⟩ ++ T1 ++ ⟨#[9, 73, 78, 9]⟩ ++ T2 ++ ⟨#[9]⟩ ++ D ++ ⟨#[10]⟩ : ByteArray).size = T1.size + T2.size + D.size + 7 := by
  simp only [ByteArray.size_append, show (⟨#[9]⟩ : ByteArray).size = 1 from rfl, show (⟨#[9, 73, 78, 9]⟩ : ByteArray).size = 4 from rfl, show (⟨#[10]⟩ : ByteArray).size = 1 from rfl]
  omega
theorem dec_any' (n : Int) (h0 : 0 ≤ n) (h1 : n < 10000000000000000) (w : World) :
    Calls Tryz.prog 19 #[.int .i64 n] w fun e w' => e = .returned (.string ⟨(Lib.decDigits n.toNat).toArray⟩) ∧ Below w.heap.size w w' := by
  obtain ⟨m, rfl⟩ := Int.eq_ofNat_of_zero_le h0
  exact decimal_any 15 m w (by omega) (Nat.le_refl _)

set_option maxRecDepth 100000 in
set_option maxHeartbeats 16000000 in
theorem rprint_any (a : Option Addr) (n c : Nat) (L : List Rc) (O : ByteArray) (w : World) (hn : L.length = n) (hr : RdC w a 5 (L.map Rc.cells)) (hO : O.size ≤ 1048576) (hL : ∀ x ∈ L, x.o.size ≤ 1048576 ∧ x.d.size ≤ 1048576) (hN : n ≤ 1048576) :
    Calls Tryz.prog 9 #[.slice a n c, .string O] w fun e w' => e = .returned (.tuple #[.string ⟨(printS O.data.toList L).1.toArray⟩, .int .i64 (printS O.data.toList L).2]) ∧ Below w.heap.size w w' := by
  have HL := Lib.hid hL; have HNN := Lib.hid hn; have HRD := Lib.hid hr
  have CC := Lib.hid (fun w => isName_any O w (by omega))
  clear hL hn hr
  cases ho : split O.data.toList with
  | none =>
    have HOUT : Hid (printS O.data.toList L = ([], 1)) := Lib.hid (by unfold printS; rw [ho]; rfl)
    have hb : isB O = false := by unfold isB; rw [ho]; rfl
    rw [HOUT.out]
    rw [hb] at CC
    clear ho hb
    go_enter Tryz.func9, Tryz.ntmps9
    go_wp2_with fail
    refine (CC.out _).mono ?_
    rintro e w1 ⟨rfl, hB1⟩
    go_wp2_with fail
    go_ret2
    exact ⟨rfl, hB1⟩
  | some os =>
  have HON := Lib.hid (split_iff.1 ho)
  rw [isB_yes HON.out] at CC
  by_cases hbig : 2000 < n
  · have HOUT : Hid (printS O.data.toList L = ([], 20)) := Lib.hid (by unfold printS; rw [ho, if_neg (by simp), if_pos (by rw [HNN.out]; exact hbig)])
    rw [HOUT.out]
    clear ho
    go_enter Tryz.func9, Tryz.ntmps9
    go_wp2_with fail
    refine (CC.out _).mono ?_
    rintro e w1 ⟨rfl, hB1⟩
    go_wp2_with fail
    go_ret2
    exact ⟨rfl, hB1⟩
  obtain ⟨RR, HRR⟩ : ∃ RR, Hid ((linesS O.data.toList (prevS L 0) (L.drop 0)).map (headS O.data.toList ++ ·) = RR) := ⟨_, Lib.hid rfl⟩
  have HOUT : Hid (printS O.data.toList L = outP RR) := Lib.hid (print_in (by rw [ho]; rfl) (by rw [HNN.out]; exact hbig) HRR.out)
  have CSH := Lib.hid (fun w => nshow.show_any O w (by omega))
  obtain ⟨S, hS⟩ : ∃ S : ByteArray, (⟨(showS O.data.toList).toArray⟩ : ByteArray) = S := ⟨_, rfl⟩
  have hSd : S.data.toList = showS O.data.toList := by rw [← hS]
  have hSs : S.size ≤ 1100 := by rw [← hS, mk_size]; exact showS_len _
  rw [hS] at CSH
  have HHD : Hid ((⟨#[36, 79, 82, 73, 71, 73, 78, 32]⟩ ++ S ++ ⟨#[10]⟩ : ByteArray).data.toList = headS O.data.toList) := Lib.hid (by unfold headS; rw [← hSd]; simp)
  have hHs : (⟨#[36, 79, 82, 73, 71, 73, 78, 32]⟩ ++ S ++ ⟨#[10]⟩ : ByteArray).size = S.size + 9 := by
    rw [ByteArray.size_append, ByteArray.size_append, show (⟨#[36, 79, 82, 73, 71, 73, 78, 32]⟩ : ByteArray).size = 8 from rfl, show (⟨#[10]⟩ : ByteArray).size = 1 from rfl]; omega
  have HHL : Hid ((⟨#[36, 79, 82, 73, 71, 73, 78, 32]⟩ ++ S ++ ⟨#[10]⟩ : ByteArray).size ≤ 1200) := Lib.hid (by rw [hHs]; omega)
  rw [← HHD.out] at HRR
  rw [HOUT.out]
  clear ho hS hSd
  go_enter Tryz.func9, Tryz.ntmps9
  go_wp2_with fail
  refine (CC.out _).mono ?_
  rintro e w1 ⟨rfl, hB1⟩
  have HB1 := Lib.hid hB1; clear hB1
  go_wp2_with fail
  refine (CSH.out _).mono ?_
  rintro e w3 ⟨rfl, hB3⟩
  have HB3 := Lib.hid (HB1.out.trans (hB3.mono HB1.out.size)); clear hB3
  go_wp2_with fail
  go_loopg [6, 7, 8, 9, 10, 23] (n + 1) (fun gas sv _ _ _ _ kv wr => ∃ (k : Nat) (A : ByteArray), sv = .string A ∧ kv = .int .i64 k ∧ k ≤ n ∧ k + gas = n + 1 ∧ A.size ≤ 1200 + 131100000 * k ∧ Hid ((linesS O.data.toList (prevS L k) (L.drop k)).map (A.data.toList ++ ·) = RR) ∧ Hid (Below w.heap.size w wr))
  case atStart => exact ⟨0, _, rfl, rfl, by omega, by omega, by have := HHL.out; omega, HRR, HB3⟩
  case round =>
    clear HB3
    obtain ⟨k, A, rfl, rfl, hk, hkg, hAL, HW, HB⟩ := hrel
    have HKG := Lib.hid hkg; clear hkg
    have hsz := HB.out.size
    by_cases hlt : k < n
    · obtain ⟨x, hx⟩ : ∃ x, L[k]? = some x := ⟨_, List.getElem?_eq_getElem (by have := HNN.out; omega)⟩
      obtain ⟨g, o, rfl, hg, hcl⟩ := at_r HRD.out hx
      obtain ⟨x0, x1, x2, x3, x4⟩ := hcl.below HB.out hg
      have HX := Lib.hid hx
      obtain ⟨hos, hds⟩ := HL.out x (List.mem_of_getElem? hx)
      have hy := heap_alloc_new wr (.cells #[.string x.o, .int .i64 x.t, .int .i64 x.c, .int .i64 x.l, .string x.d] 47)
      have hB7 := (Below.refl wr.heap.size wr).alloc (Nat.le_refl _) (.cells #[.string x.o, .int .i64 x.t, .int .i64 x.c, .int .i64 x.l, .string x.d] 47)
      obtain ⟨Y, hY⟩ : ∃ Y, wr.heap.size = Y := ⟨_, rfl⟩
      obtain ⟨w7, hw7⟩ : ∃ w7, wr.alloc (.cells #[.string x.o, .int .i64 x.t, .int .i64 x.c, .int .i64 x.l, .string x.d] 47) = w7 := ⟨_, rfl⟩
      rw [hw7] at hy hB7
      rw [hY] at hy
      have HB7 := Lib.hid (HB.out.trans (hB7.mono hsz))
      have HY7 := Lib.hid hy
      have t0 : w7.cell? ⟨Y, 0, none⟩ = some (.string x.o) := by simp only [World.cell?, hy]; rfl
      have t1 : w7.cell? ⟨Y, 1, none⟩ = some (.int .i64 x.t) := by simp only [World.cell?, hy]; rfl
      have t2 : w7.cell? ⟨Y, 2, none⟩ = some (.int .i64 x.c) := by simp only [World.cell?, hy]; rfl
      have t3 : w7.cell? ⟨Y, 3, none⟩ = some (.int .i64 x.l) := by simp only [World.cell?, hy]; rfl
      have t4 : w7.cell? ⟨Y, 4, none⟩ = some (.string x.d) := by simp only [World.cell?, hy]; rfl
      have HW7 := Lib.hid hw7; have HYY := Lib.hid hY
      have CZ := Lib.hid (fun w => zonal_any x w (by omega) (by unfold maxLen; omega))
      have CSD := Lib.hid (fun w => rshow.rshow_any x.t x.d w (by unfold maxLen; omega))
      obtain ⟨D, hD⟩ : ∃ D : ByteArray, (⟨(showDS x.t x.d.data.toList).toArray⟩ : ByteArray) = D := ⟨_, rfl⟩
      rw [hD] at CSD
      have HDD : Hid (D.data.toList = showDS x.t x.d.data.toList) := Lib.hid (by rw [← hD])
      have hDs : D.size ≤ 131094000 := by rw [← hD, mk_size]; exact showDS_len _ _
      have zk : (0 : Int) ≤ (k : Int) := by omega
      have zl : (k : Int) < (n : Int) := by omega
      have hkn : k < n := hlt
      clear hx hcl hy hB7 hw7 hY hD hlt
      go_upto_region 9 with fail
      rw [HW7.out]
      try rw [HYY.out]
      clear x0 x1 x2 x3 x4
      cases hz : zonB x with
      | false =>
        have HNO : Hid (RR = none) := Lib.hid (add_bad HW.out HX.out hz)
        rw [hz] at CZ
        clear hz
        go_wp2_with fail
        refine (CZ.out _).mono ?_
        rintro e w8 ⟨rfl, hB8⟩
        have HB8 := Lib.hid (HB7.out.trans (hB8.mono HB7.out.size))
        clear hB8
        go_wp2_with fail
        go_ret2
        exact ⟨by rw [HNO.out]; rfl, HB8.out⟩
      | true =>
      have HGO0 := Lib.hid (add_go HW.out HX.out hz)
      rw [hz] at CZ
      obtain ⟨hisb, hc1, hl0, hl1, hchk⟩ := zon_parts hz
      obtain ⟨xs, hxs⟩ : ∃ xs, split x.o.data.toList = some xs := Option.isSome_iff_exists.1 hisb
      have HXS := Lib.hid (split_iff.1 hxs)
      rw [hchk] at CSD
      have CI := Lib.hid (fun wx => dec_any' x.l hl0 (by omega) wx)
      have CT := Lib.hid (fun wx => rtname_any x.t wx)
      obtain ⟨T1, hT1⟩ : ∃ T : ByteArray, (⟨(Lib.decDigits x.l.toNat).toArray⟩ : ByteArray) = T := ⟨_, rfl⟩
      obtain ⟨T2, hT2⟩ : ∃ T : ByteArray, (⟨(tnameS x.t).toArray⟩ : ByteArray) = T := ⟨_, rfl⟩
      rw [hT1] at CI
      rw [hT2] at CT
      have HT1 : Hid (T1.data.toList = Lib.decDigits x.l.toNat) := Lib.hid (by rw [← hT1])
      have HT2 : Hid (T2.data.toList = tnameS x.t) := Lib.hid (by rw [← hT2])
      have hT1s : T1.size ≤ 10 := by rw [← hT1, mk_size]; exact dec_len 9 _ (by omega)
      have hT2s : T2.size ≤ 10 := by rw [← hT2, mk_size]; exact tname_len _
      have HNE : Hid (x.o.data.toList ≠ []) := Lib.hid (by intro h; rw [h] at hxs; simp [split, parseF] at hxs)
      clear hT1 hT2 hz hisb hc1 hchk hxs
      go_wp2_with fail
      refine (CZ.out _).mono ?_
      rintro e w8 ⟨rfl, hB8⟩
      have HB8 := Lib.hid (HB7.out.trans (hB8.mono HB7.out.size))
      have HY8 := Lib.hid ((hB8.block Y (Array.getElem?_eq_some_iff.1 HY7.out).1).trans HY7.out)
      clear t0 t1 t2 t3 t4 hB8
      have y0 : w8.cell? ⟨Y, 0, none⟩ = some (.string x.o) := by simp only [World.cell?, HY8.out]; rfl
      have y1 : w8.cell? ⟨Y, 1, none⟩ = some (.int .i64 x.t) := by simp only [World.cell?, HY8.out]; rfl
      have y3 : w8.cell? ⟨Y, 3, none⟩ = some (.int .i64 x.l) := by simp only [World.cell?, HY8.out]; rfl
      have y4 : w8.cell? ⟨Y, 4, none⟩ = some (.string x.d) := by simp only [World.cell?, HY8.out]; rfl
      have CR := Lib.hid (fun w => owner_any x.o O xs os w HXS.out HON.out)
      obtain ⟨Q, hQ⟩ : ∃ Q : ByteArray, (⟨(relS x.o.data.toList O.data.toList).toArray⟩ : ByteArray) = Q := ⟨_, rfl⟩
      have HQD : Hid (Q.data.toList = relS x.o.data.toList O.data.toList) := Lib.hid (by rw [← hQ])
      have hQs : Q.size ≤ 1100 := by rw [← hQ, mk_size]; exact rel_len _ _
      rw [hQ] at CR
      clear hQ
      go_upto_region 11 with fail
      by_cases hk0 : k = 0
      · subst hk0
        have hown : ownerS (prevS L 0) O.data.toList x = Q.data.toList := by unfold ownerS; rw [prev_zero, if_neg HNE.out, HQD.out]
        obtain ⟨E, HREST⟩ : ∃ E, Hid ((A.data.toList ++ Q.data.toList) ++ restS x = E) := ⟨_, Lib.hid rfl⟩
        have HGO : Hid ((linesS O.data.toList x.o.data.toList (L.drop (0 + 1))).map (E ++ ·) = RR) := Lib.hid (by
          have h := HGO0.out
          rw [hown] at h
          rw [HREST.out] at h; exact h)
        have hs5 := sum_sizes T1 T2 D
        have HDAT : Hid ((A ++ Q ++ (⟨#[9]⟩ ++ T1 ++ ⟨#[9, 73, 78, 9]⟩ ++ T2 ++ ⟨#[9]⟩ ++ D ++ ⟨#[10]⟩) : ByteArray).data.toList = E) := Lib.hid (by
          rw [← HREST.out]; unfold restS; rw [← HT1.out, ← HT2.out, ← HDD.out]; simp)
        have hrs := printW.rest_len (x := x) HDD.out HT1.out HT2.out
        have hr2 : (restS x).length ≤ 131094030 := by rw [hrs]; omega
        have hEe : E.length = A.size + Q.size + (restS x).length := by rw [← HREST.out, List.length_append, List.length_append, size_len, size_len]
        have hE0 : E.length ≤ 1200 + 131100000 * (0 + 1) := printW.len_step2 hEe hAL hQs (Nat.le_trans hr2 (by decide))
        have HSZ : Hid ((A ++ Q ++ (⟨#[9]⟩ ++ T1 ++ ⟨#[9, 73, 78, 9]⟩ ++ T2 ++ ⟨#[9]⟩ ++ D ++ ⟨#[10]⟩) : ByteArray).size ≤ 1200 + 131100000 * (0 + 1)) := Lib.hid (by rw [← size_len, HDAT.out]; exact hE0)
        have hEL : (A ++ Q ++ (⟨#[9]⟩ ++ T1 ++ ⟨#[9, 73, 78, 9]⟩ ++ T2 ++ ⟨#[9]⟩ ++ D ++ ⟨#[10]⟩) : ByteArray).size ≤ 1099511627776 := by rw [← size_len, HDAT.out]; exact printW.len_top hE0 hkn hbig
        have hAS : A.size ≤ 1099511627776 := Nat.le_trans hAL (Nat.le_trans (Nat.add_le_add_left (Nat.mul_le_mul_left 131100000 (show 0 ≤ 2000 by omega)) 1200) (by decide))
        have hsum : (⟨#[9]⟩ ++ T1 ++ ⟨#[9, 73, 78, 9]⟩ ++ T2 ++ ⟨#[9]⟩ ++ D ++ ⟨#[10]⟩ : ByteArray).size ≤ 140000000 := by rw [hs5]; omega
        clear hrs hr2 hEe hE0
        refine heldG.regionG (fun w' => Below w.heap.size w w') (fun _ => false) (by kernel_rfl) ?_
        have hS0 := HB8.out.drew
        refine dshowC.isSetTake (i := 0) (d := 31) (v := .int .i64 0) rfl rfl (by kernel_rfl) (by kernel_rfl) (by kernel_rfl) (fun _ _ _ h => h) (by kernel_rfl) rfl (Or.inl ⟨by kernel_rfl, ?_⟩) hS0 ?_
        · intro wz hSw
          obtain zB := hSw
          go_simp
        try simp only [Act.put, List.setIfInBounds_toArray, List.set_cons_zero, List.set_cons_succ]
        refine dshowC.isSetTake (i := 1) (d := 32) (v := .bool true) rfl rfl (by kernel_rfl) (by kernel_rfl) (by kernel_rfl) (fun _ _ _ h => h) (by kernel_rfl) rfl (Or.inl ⟨by kernel_rfl, ?_⟩) hS0 ?_
        · intro wz hSw
          obtain zB := hSw
          go_simp
        try simp only [Act.put, List.setIfInBounds_toArray, List.set_cons_zero, List.set_cons_succ]
        refine dshowC.isSetTake (i := 2) (d := 33) (v := .bool true) rfl rfl (by kernel_rfl) (by kernel_rfl) (by kernel_rfl) (fun _ _ _ h => h) (by kernel_rfl) rfl (Or.inl ⟨by kernel_rfl, ?_⟩) hS0 ?_
        · intro wz hSw
          obtain zB := hSw
          go_simp
        try simp only [Act.put, List.setIfInBounds_toArray, List.set_cons_zero, List.set_cons_succ]
        refine dshowC.isSetTake (i := 3) (d := 34) (v := undef) rfl rfl (by kernel_rfl) (by kernel_rfl) (by kernel_rfl) (fun _ _ _ h => h) (by kernel_rfl) rfl (Or.inr ⟨by kernel_rfl, rfl⟩) hS0 ?_
        try simp only [Act.put, List.setIfInBounds_toArray, List.set_cons_zero, List.set_cons_succ]
        refine dshowC.isSetTake (i := 4) (d := 35) (v := undef) rfl rfl (by kernel_rfl) (by kernel_rfl) (by kernel_rfl) (fun _ _ _ h => h) (by kernel_rfl) rfl (Or.inr ⟨by kernel_rfl, rfl⟩) hS0 ?_
        try simp only [Act.put, List.setIfInBounds_toArray, List.set_cons_zero, List.set_cons_succ]
        refine dshowC.isSetTake (i := 5) (d := 36) (v := undef) rfl rfl (by kernel_rfl) (by kernel_rfl) (by kernel_rfl) (fun _ _ _ h => h) (by kernel_rfl) rfl (Or.inr ⟨by kernel_rfl, rfl⟩) hS0 ?_
        try simp only [Act.put, List.setIfInBounds_toArray, List.set_cons_zero, List.set_cons_succ]
        refine dshowC.isSetTake (i := 6) (d := 37) (v := undef) rfl rfl (by kernel_rfl) (by kernel_rfl) (by kernel_rfl) (fun _ _ _ h => h) (by kernel_rfl) rfl (Or.inr ⟨by kernel_rfl, rfl⟩) hS0 ?_
        try simp only [Act.put, List.setIfInBounds_toArray, List.set_cons_zero, List.set_cons_succ]
        refine dshowC.isSetTake (i := 7) (d := 38) (v := undef) rfl rfl (by kernel_rfl) (by kernel_rfl) (by kernel_rfl) (fun _ _ _ h => h) (by kernel_rfl) rfl (Or.inr ⟨by kernel_rfl, rfl⟩) hS0 ?_
        try simp only [Act.put, List.setIfInBounds_toArray, List.set_cons_zero, List.set_cons_succ]
        refine dshowC.isSetTake (i := 8) (d := 39) (v := undef) rfl rfl (by kernel_rfl) (by kernel_rfl) (by kernel_rfl) (fun _ _ _ h => h) (by kernel_rfl) rfl (Or.inr ⟨by kernel_rfl, rfl⟩) hS0 ?_
        try simp only [Act.put, List.setIfInBounds_toArray, List.set_cons_zero, List.set_cons_succ]
        refine dshowC.isSetTake (i := 9) (d := 40) (v := undef) rfl rfl (by kernel_rfl) (by kernel_rfl) (by kernel_rfl) (fun _ _ _ h => h) (by kernel_rfl) rfl (Or.inr ⟨by kernel_rfl, rfl⟩) hS0 ?_
        try simp only [Act.put, List.setIfInBounds_toArray, List.set_cons_zero, List.set_cons_succ]
        refine dshowC.isSetTake (i := 10) (d := 41) (v := undef) rfl rfl (by kernel_rfl) (by kernel_rfl) (by kernel_rfl) (fun _ _ _ h => h) (by kernel_rfl) rfl (Or.inr ⟨by kernel_rfl, rfl⟩) hS0 ?_
        try simp only [Act.put, List.setIfInBounds_toArray, List.set_cons_zero, List.set_cons_succ]
        refine dshowC.isSetTake (i := 11) (d := 42) (v := undef) rfl rfl (by kernel_rfl) (by kernel_rfl) (by kernel_rfl) (fun _ _ _ h => h) (by kernel_rfl) rfl (Or.inr ⟨by kernel_rfl, rfl⟩) hS0 ?_
        try simp only [Act.put, List.setIfInBounds_toArray, List.set_cons_zero, List.set_cons_succ]
        refine dshowC.isSetTake (i := 12) (d := 43) (v := .bool true) rfl rfl (by kernel_rfl) (by kernel_rfl) (by kernel_rfl) (fun _ _ _ h => h) (by kernel_rfl) rfl (Or.inl ⟨by kernel_rfl, ?_⟩) hS0 ?_
        · intro wz hSw
          obtain zB := hSw
          go_simp
        try simp only [Act.put, List.setIfInBounds_toArray, List.set_cons_zero, List.set_cons_succ]
        refine heldG.doneG (by kernel_rfl) ?_ _
        clear hS0
        go_wp2_with fail
        refine (CR.out _).mono ?_
        rintro e w10 ⟨rfl, hB10d⟩
        have hB10 := printW.drew_below hB10d
        clear hB10d
        have HB10 := Lib.hid (HB8.out.trans (hB10.mono HB8.out.size))
        have HY10 := Lib.hid ((hB10.block Y (Array.getElem?_eq_some_iff.1 HY8.out).1).trans HY8.out)
        clear y0 y1 y3 y4 hB10
        have y0 : w10.cell? ⟨Y, 0, none⟩ = some (.string x.o) := by simp only [World.cell?, HY10.out]; rfl
        have y1 : w10.cell? ⟨Y, 1, none⟩ = some (.int .i64 x.t) := by simp only [World.cell?, HY10.out]; rfl
        have y3 : w10.cell? ⟨Y, 3, none⟩ = some (.int .i64 x.l) := by simp only [World.cell?, HY10.out]; rfl
        have y4 : w10.cell? ⟨Y, 4, none⟩ = some (.string x.d) := by simp only [World.cell?, HY10.out]; rfl
        have hAQ : (A ++ Q).size ≤ 1099511628900 := by rw [ByteArray.size_append]; omega
        go_wp2_with fail
        refine (CSD.out _).mono ?_
        rintro e w12 ⟨rfl, hB12⟩
        skip
        have HB12 := Lib.hid (HB10.out.trans (hB12.mono HB10.out.size))
        have HY12 := Lib.hid ((hB12.block Y (Array.getElem?_eq_some_iff.1 HY10.out).1).trans HY10.out)
        clear y0 y1 y3 y4 hB12
        have y1 : w12.cell? ⟨Y, 1, none⟩ = some (.int .i64 x.t) := by simp only [World.cell?, HY12.out]; rfl
        have y3 : w12.cell? ⟨Y, 3, none⟩ = some (.int .i64 x.l) := by simp only [World.cell?, HY12.out]; rfl
        go_upto_region 14 with fail
        refine heldG.regionG (fun w' => w'.cell? ⟨Y, 1, none⟩ = some (.int .i64 x.t) ∧ w'.cell? ⟨Y, 3, none⟩ = some (.int .i64 x.l) ∧ Below w.heap.size w w') (fun _ => false) (by kernel_rfl) ?_
        have hS0 : w12.drew.cell? ⟨Y, 1, none⟩ = some (.int .i64 x.t) ∧ w12.drew.cell? ⟨Y, 3, none⟩ = some (.int .i64 x.l) ∧ Below w.heap.size w w12.drew := ⟨y1, y3, HB12.out.drew⟩
        refine dshowC.isSetTake (i := 0) (d := 58) (v := .string (A ++ Q)) rfl rfl (by kernel_rfl) (by kernel_rfl) (by kernel_rfl) (fun _ _ _ h => h) (by kernel_rfl) rfl (Or.inl ⟨by kernel_rfl, ?_⟩) hS0 ?_
        · intro wz hSw
          obtain ⟨z1, z3, zB⟩ := hSw
          go_simp
        try simp only [Act.put, List.setIfInBounds_toArray, List.set_cons_zero, List.set_cons_succ]
        refine dshowC.isSetTake (i := 1) (d := 59) (v := .pointer (some ⟨Y, 3, none⟩)) rfl rfl (by kernel_rfl) (by kernel_rfl) (by kernel_rfl) (fun _ _ _ h => h) (by kernel_rfl) rfl (Or.inl ⟨by kernel_rfl, ?_⟩) hS0 ?_
        · intro wz hSw
          obtain ⟨z1, z3, zB⟩ := hSw
          go_simp
        try simp only [Act.put, List.setIfInBounds_toArray, List.set_cons_zero, List.set_cons_succ]
        refine dshowC.isSetTake (i := 2) (d := 60) (v := .int .i64 x.l) rfl rfl (by kernel_rfl) (by kernel_rfl) (by kernel_rfl) (fun _ _ _ h => h) (by kernel_rfl) rfl (Or.inl ⟨by kernel_rfl, ?_⟩) hS0 ?_
        · intro wz hSw
          obtain ⟨z1, z3, zB⟩ := hSw
          go_simp
        try simp only [Act.put, List.setIfInBounds_toArray, List.set_cons_zero, List.set_cons_succ]
        refine dshowC.isSetTake (i := 6) (d := 64) (v := .pointer (some ⟨Y, 1, none⟩)) rfl rfl (by kernel_rfl) (by kernel_rfl) (by kernel_rfl) (fun _ _ _ h => h) (by kernel_rfl) rfl (Or.inl ⟨by kernel_rfl, ?_⟩) hS0 ?_
        · intro wz hSw
          obtain ⟨z1, z3, zB⟩ := hSw
          go_simp
        try simp only [Act.put, List.setIfInBounds_toArray, List.set_cons_zero, List.set_cons_succ]
        refine dshowC.isSetTake (i := 7) (d := 65) (v := .int .i64 x.t) rfl rfl (by kernel_rfl) (by kernel_rfl) (by kernel_rfl) (fun _ _ _ h => h) (by kernel_rfl) rfl (Or.inl ⟨by kernel_rfl, ?_⟩) hS0 ?_
        · intro wz hSw
          obtain ⟨z1, z3, zB⟩ := hSw
          go_simp
        try simp only [Act.put, List.setIfInBounds_toArray, List.set_cons_zero, List.set_cons_succ]
        refine dshowC.isSetTake (i := 11) (d := 69) (v := .string D) rfl rfl (by kernel_rfl) (by kernel_rfl) (by kernel_rfl) (fun _ _ _ h => h) (by kernel_rfl) rfl (Or.inl ⟨by kernel_rfl, ?_⟩) hS0 ?_
        · intro wz hSw
          obtain ⟨z1, z3, zB⟩ := hSw
          go_simp
        try simp only [Act.put, List.setIfInBounds_toArray, List.set_cons_zero, List.set_cons_succ]
        refine heldG.readyG (rs := [3]) (by kernel_rfl) (by simp) ?_
        refine heldG.AllG.cons rfl (fun KK hKK => ?_) heldG.AllG.nil
        go_simp
        refine (CI.out _).mono ?_
        rintro en v1 ⟨rfl, hBz⟩
        have hS1 := printW.keep13 hS0 hBz
        dsimp only
        refine hKK.out _ _ (fun _ => hS1) ?_; clear hKK KK hBz
        try simp only [Act.put, List.setIfInBounds_toArray, List.set_cons_zero, List.set_cons_succ]
        refine dshowC.isSetTake (i := 4) (d := 62) (v := .string (⟨#[9]⟩ ++ T1)) rfl rfl (by kernel_rfl) (by kernel_rfl) (by kernel_rfl) (fun _ _ _ h => h) (by kernel_rfl) rfl (Or.inl ⟨by kernel_rfl, ?_⟩) hS1 ?_
        · intro wz hSw
          obtain ⟨z1, z3, zB⟩ := hSw
          go_simp; try omega
        try simp only [Act.put, List.setIfInBounds_toArray, List.set_cons_zero, List.set_cons_succ]
        refine dshowC.isSetTake (i := 5) (d := 63) (v := .string (⟨#[9]⟩ ++ T1 ++ ⟨#[9, 73, 78, 9]⟩)) rfl rfl (by kernel_rfl) (by kernel_rfl) (by kernel_rfl) (fun _ _ _ h => h) (by kernel_rfl) rfl (Or.inl ⟨by kernel_rfl, ?_⟩) hS1 ?_
        · intro wz hSw
          obtain ⟨z1, z3, zB⟩ := hSw
          go_simp; try omega
        try simp only [Act.put, List.setIfInBounds_toArray, List.set_cons_zero, List.set_cons_succ]
        refine heldG.readyG (rs := [8]) (by kernel_rfl) (by simp) ?_
        refine heldG.AllG.cons rfl (fun KK hKK => ?_) heldG.AllG.nil
        go_simp
        refine (CT.out _).mono ?_
        rintro en v2 ⟨rfl, hBz⟩
        have hS2 := printW.keep13 hS1 hBz
        dsimp only
        refine hKK.out _ _ (fun _ => hS2) ?_; clear hKK KK hBz
        try simp only [Act.put, List.setIfInBounds_toArray, List.set_cons_zero, List.set_cons_succ]
        refine dshowC.isSetTake (i := 9) (d := 67) (v := .string (⟨#[9]⟩ ++ T1 ++ ⟨#[9, 73, 78, 9]⟩ ++ T2)) rfl rfl (by kernel_rfl) (by kernel_rfl) (by kernel_rfl) (fun _ _ _ h => h) (by kernel_rfl) rfl (Or.inl ⟨by kernel_rfl, ?_⟩) hS2 ?_
        · intro wz hSw
          obtain ⟨z1, z3, zB⟩ := hSw
          go_simp; try omega
        try simp only [Act.put, List.setIfInBounds_toArray, List.set_cons_zero, List.set_cons_succ]
        refine dshowC.isSetTake (i := 10) (d := 68) (v := .string (⟨#[9]⟩ ++ T1 ++ ⟨#[9, 73, 78, 9]⟩ ++ T2 ++ ⟨#[9]⟩)) rfl rfl (by kernel_rfl) (by kernel_rfl) (by kernel_rfl) (fun _ _ _ h => h) (by kernel_rfl) rfl (Or.inl ⟨by kernel_rfl, ?_⟩) hS2 ?_
        · intro wz hSw
          obtain ⟨z1, z3, zB⟩ := hSw
          go_simp; try omega
        try simp only [Act.put, List.setIfInBounds_toArray, List.set_cons_zero, List.set_cons_succ]
        refine dshowC.isSetTake (i := 12) (d := 70) (v := .string (⟨#[9]⟩ ++ T1 ++ ⟨#[9, 73, 78, 9]⟩ ++ T2 ++ ⟨#[9]⟩ ++ D)) rfl rfl (by kernel_rfl) (by kernel_rfl) (by kernel_rfl) (fun _ _ _ h => h) (by kernel_rfl) rfl (Or.inl ⟨by kernel_rfl, ?_⟩) hS2 ?_
        · intro wz hSw
          obtain ⟨z1, z3, zB⟩ := hSw
          go_simp; try omega
        try simp only [Act.put, List.setIfInBounds_toArray, List.set_cons_zero, List.set_cons_succ]
        refine dshowC.isSetTake (i := 13) (d := 71) (v := .string (⟨#[9]⟩ ++ T1 ++ ⟨#[9, 73, 78, 9]⟩ ++ T2 ++ ⟨#[9]⟩ ++ D ++ ⟨#[10]⟩)) rfl rfl (by kernel_rfl) (by kernel_rfl) (by kernel_rfl) (fun _ _ _ h => h) (by kernel_rfl) rfl (Or.inl ⟨by kernel_rfl, ?_⟩) hS2 ?_
        · intro wz hSw
          obtain ⟨z1, z3, zB⟩ := hSw
          go_simp; try omega
        try simp only [Act.put, List.setIfInBounds_toArray, List.set_cons_zero, List.set_cons_succ]
        refine dshowC.isSetTake (i := 14) (d := 72) (v := .string (A ++ Q ++ (⟨#[9]⟩ ++ T1 ++ ⟨#[9, 73, 78, 9]⟩ ++ T2 ++ ⟨#[9]⟩ ++ D ++ ⟨#[10]⟩))) rfl rfl (by kernel_rfl) (by kernel_rfl) (by kernel_rfl) (fun _ _ _ h => h) (by kernel_rfl) rfl (Or.inl ⟨by kernel_rfl, ?_⟩) hS2 ?_
        · intro wz hSw
          obtain ⟨z1, z3, zB⟩ := hSw
          go_simp; try omega
        try simp only [Act.put, List.setIfInBounds_toArray, List.set_cons_zero, List.set_cons_succ]
        refine dshowC.isSetTake (i := 15) (d := 6) (v := .string (A ++ Q ++ (⟨#[9]⟩ ++ T1 ++ ⟨#[9, 73, 78, 9]⟩ ++ T2 ++ ⟨#[9]⟩ ++ D ++ ⟨#[10]⟩))) rfl rfl (by kernel_rfl) (by kernel_rfl) (by kernel_rfl) (fun _ _ _ h => h) (by kernel_rfl) rfl (Or.inl ⟨by kernel_rfl, ?_⟩) hS2 ?_
        · intro wz hSw
          obtain ⟨z1, z3, zB⟩ := hSw
          go_simp
        try simp only [Act.put, List.setIfInBounds_toArray, List.set_cons_zero, List.set_cons_succ]
        refine heldG.doneG (by kernel_rfl) ?_ _
        have HB2 := Lib.hid hS2.2.2
        clear hS0 hS1 hS2
        obtain ⟨Z, hZ⟩ : ∃ Z, A ++ Q ++ (⟨#[9]⟩ ++ T1 ++ ⟨#[9, 73, 78, 9]⟩ ++ T2 ++ ⟨#[9]⟩ ++ D ++ ⟨#[10]⟩) = Z := ⟨_, rfl⟩
        rw [hZ] at HSZ HDAT ⊢
        clear hZ hAL hAS hEL hsum hs5
        go_wp2_with fail
        have hkg := HKG.out
        go_roundg (gk - 1)
        case rel =>
          refine ⟨0 + 1, Z, rfl, ?_, hkn, ?_, HSZ.out, Lib.hid (by rw [prev_succ HX.out, HDAT.out]; exact HGO.out), HB2⟩
          · go_num
          · omega
        case measure => omega
      · obtain ⟨p, hp⟩ : ∃ p, L[k - 1]? = some p := ⟨_, List.getElem?_eq_getElem (by have := HNN.out; omega)⟩
        obtain ⟨g', o', hgo, hg', hclp⟩ := at_r HRD.out hp
        obtain ⟨rfl, rfl⟩ : g = g' ∧ o = o' := by simpa using hgo
        obtain ⟨p0, _, _, _, _⟩ := hclp.below HB8.out hg
        have hpv := prev_at hk0 hp
        have hk0b : ((k : Int) == 0) = false := by rw [beq_eq_false_iff_ne]; omega
        have hk1 : 1 ≤ k := by omega
        have hk1i : (1 : Int) ≤ (k : Int) := by omega
        clear hgo hclp hp
        by_cases hsame : x.o.data.toList = p.o.data.toList
        · have hne : (p.o.toList != x.o.toList) = false := by rw [bne_eq_false_iff_eq, Lib.toList_data, Lib.toList_data]; exact hsame.symm
          have hne2 : (p.o.toList == x.o.toList) = true := by rw [str_eqB, decide_eq_true_eq]; exact hsame.symm
          have hown : ownerS (prevS L k) O.data.toList x = [] := by unfold ownerS; rw [hpv, if_pos hsame]
          obtain ⟨E, HREST⟩ : ∃ E, Hid (A.data.toList ++ restS x = E) := ⟨_, Lib.hid rfl⟩
          have HGO : Hid ((linesS O.data.toList x.o.data.toList (L.drop (k + 1))).map (E ++ ·) = RR) := Lib.hid (by
            have h := HGO0.out
            rw [hown] at h
            rw [List.append_nil, HREST.out] at h; exact h)
          have hs5 := sum_sizes T1 T2 D
          have HDAT : Hid ((A ++ (⟨#[9]⟩ ++ T1 ++ ⟨#[9, 73, 78, 9]⟩ ++ T2 ++ ⟨#[9]⟩ ++ D ++ ⟨#[10]⟩) : ByteArray).data.toList = E) := Lib.hid (by
            rw [← HREST.out]; unfold restS; rw [← HT1.out, ← HT2.out, ← HDD.out]; simp)
          have hrs := printW.rest_len (x := x) HDD.out HT1.out HT2.out
          have hr2 : (restS x).length ≤ 131094030 := by rw [hrs]; omega
          have hEe : E.length = A.size + (restS x).length := by rw [← HREST.out, List.length_append, size_len]
          have hE0 : E.length ≤ 1200 + 131100000 * (k + 1) := printW.len_step hEe hAL (Nat.le_trans hr2 (by decide))
          have HSZ : Hid ((A ++ (⟨#[9]⟩ ++ T1 ++ ⟨#[9, 73, 78, 9]⟩ ++ T2 ++ ⟨#[9]⟩ ++ D ++ ⟨#[10]⟩) : ByteArray).size ≤ 1200 + 131100000 * (k + 1)) := Lib.hid (by rw [← size_len, HDAT.out]; exact hE0)
          have hEL : (A ++ (⟨#[9]⟩ ++ T1 ++ ⟨#[9, 73, 78, 9]⟩ ++ T2 ++ ⟨#[9]⟩ ++ D ++ ⟨#[10]⟩) : ByteArray).size ≤ 1099511627776 := by rw [← size_len, HDAT.out]; exact printW.len_top hE0 hkn hbig
          have hAS : A.size ≤ 1099511627776 := Nat.le_trans hAL (Nat.le_trans (Nat.add_le_add_left (Nat.mul_le_mul_left 131100000 (show k ≤ 2000 by omega)) 1200) (by decide))
          have hsum : (⟨#[9]⟩ ++ T1 ++ ⟨#[9, 73, 78, 9]⟩ ++ T2 ++ ⟨#[9]⟩ ++ D ++ ⟨#[10]⟩ : ByteArray).size ≤ 140000000 := by rw [hs5]; omega
          clear hrs hr2 hEe hE0
          refine heldG.regionG (fun w' => w'.cell? ⟨g, o + (k - 1) * 5, none⟩ = some (.string p.o) ∧ w'.cell? ⟨Y, 0, none⟩ = some (.string x.o) ∧ Below w.heap.size w w') (fun _ => false) (by kernel_rfl) ?_
          have hS0 : w8.drew.cell? ⟨g, o + (k - 1) * 5, none⟩ = some (.string p.o) ∧ w8.drew.cell? ⟨Y, 0, none⟩ = some (.string x.o) ∧ Below w.heap.size w w8.drew := ⟨p0, y0, HB8.out.drew⟩
          refine dshowC.isSetTake (i := 0) (d := 31) (v := .int .i64 (k : Int)) rfl rfl (by kernel_rfl) (by kernel_rfl) (by kernel_rfl) (fun _ _ _ h => h) (by kernel_rfl) rfl (Or.inl ⟨by kernel_rfl, ?_⟩) hS0 ?_
          · intro wz hSw
            obtain ⟨z1, z3, zB⟩ := hSw
            go_simp
          try simp only [Act.put, List.setIfInBounds_toArray, List.set_cons_zero, List.set_cons_succ]
          refine dshowC.isSetTake (i := 1) (d := 32) (v := .bool false) rfl rfl (by kernel_rfl) (by kernel_rfl) (by kernel_rfl) (fun _ _ _ h => h) (by kernel_rfl) rfl (Or.inl ⟨by kernel_rfl, ?_⟩) hS0 ?_
          · intro wz hSw
            obtain ⟨z1, z3, zB⟩ := hSw
            go_simp; first | done | exact hk0b
          try simp only [Act.put, List.setIfInBounds_toArray, List.set_cons_zero, List.set_cons_succ]
          refine dshowC.isSetTake (i := 2) (d := 33) (v := .bool false) rfl rfl (by kernel_rfl) (by kernel_rfl) (by kernel_rfl) (fun _ _ _ h => h) (by kernel_rfl) rfl (Or.inl ⟨by kernel_rfl, ?_⟩) hS0 ?_
          · intro wz hSw
            obtain ⟨z1, z3, zB⟩ := hSw
            go_simp
          try simp only [Act.put, List.setIfInBounds_toArray, List.set_cons_zero, List.set_cons_succ]
          refine dshowC.isSetTake (i := 3) (d := 34) (v := .slice (some ⟨g, o, none⟩) n c) rfl rfl (by kernel_rfl) (by kernel_rfl) (by kernel_rfl) (fun _ _ _ h => h) (by kernel_rfl) rfl (Or.inl ⟨by kernel_rfl, ?_⟩) hS0 ?_
          · intro wz hSw
            obtain ⟨z1, z3, zB⟩ := hSw
            go_simp
          try simp only [Act.put, List.setIfInBounds_toArray, List.set_cons_zero, List.set_cons_succ]
          refine dshowC.isSetTake (i := 4) (d := 35) (v := .int .i64 (k : Int)) rfl rfl (by kernel_rfl) (by kernel_rfl) (by kernel_rfl) (fun _ _ _ h => h) (by kernel_rfl) rfl (Or.inl ⟨by kernel_rfl, ?_⟩) hS0 ?_
          · intro wz hSw
            obtain ⟨z1, z3, zB⟩ := hSw
            go_simp
          try simp only [Act.put, List.setIfInBounds_toArray, List.set_cons_zero, List.set_cons_succ]
          refine dshowC.isSetTake (i := 5) (d := 36) (v := .int .i64 ((k - 1 : Nat) : Int)) rfl rfl (by kernel_rfl) (by kernel_rfl) (by kernel_rfl) (fun _ _ _ h => h) (by kernel_rfl) rfl (Or.inl ⟨by kernel_rfl, ?_⟩) hS0 ?_
          · intro wz hSw
            obtain ⟨z1, z3, zB⟩ := hSw
            go_simp; first | done | omega | (rw [IntWalk.i64_in _ (by omega)]; omega)
          try simp only [Act.put, List.setIfInBounds_toArray, List.set_cons_zero, List.set_cons_succ]
          refine dshowC.isSetTake (i := 6) (d := 37) (v := .pointer (some ⟨g, o + (k - 1) * 5, none⟩)) rfl rfl (by kernel_rfl) (by kernel_rfl) (by kernel_rfl) (fun _ _ _ h => h) (by kernel_rfl) rfl (Or.inl ⟨by kernel_rfl, ?_⟩) hS0 ?_
          · intro wz hSw
            obtain ⟨z1, z3, zB⟩ := hSw
            go_simp; try (intro h0; exfalso; omega)
          try simp only [Act.put, List.setIfInBounds_toArray, List.set_cons_zero, List.set_cons_succ]
          refine dshowC.isSetTake (i := 7) (d := 38) (v := .pointer (some ⟨g, o + (k - 1) * 5, none⟩)) rfl rfl (by kernel_rfl) (by kernel_rfl) (by kernel_rfl) (fun _ _ _ h => h) (by kernel_rfl) rfl (Or.inl ⟨by kernel_rfl, ?_⟩) hS0 ?_
          · intro wz hSw
            obtain ⟨z1, z3, zB⟩ := hSw
            go_simp
          try simp only [Act.put, List.setIfInBounds_toArray, List.set_cons_zero, List.set_cons_succ]
          refine dshowC.isSetTake (i := 8) (d := 39) (v := .string p.o) rfl rfl (by kernel_rfl) (by kernel_rfl) (by kernel_rfl) (fun _ _ _ h => h) (by kernel_rfl) rfl (Or.inl ⟨by kernel_rfl, ?_⟩) hS0 ?_
          · intro wz hSw
            obtain ⟨z1, z3, zB⟩ := hSw
            go_simp
          try simp only [Act.put, List.setIfInBounds_toArray, List.set_cons_zero, List.set_cons_succ]
          refine dshowC.isSetTake (i := 9) (d := 40) (v := .pointer (some ⟨Y, 0, none⟩)) rfl rfl (by kernel_rfl) (by kernel_rfl) (by kernel_rfl) (fun _ _ _ h => h) (by kernel_rfl) rfl (Or.inl ⟨by kernel_rfl, ?_⟩) hS0 ?_
          · intro wz hSw
            obtain ⟨z1, z3, zB⟩ := hSw
            go_simp
          try simp only [Act.put, List.setIfInBounds_toArray, List.set_cons_zero, List.set_cons_succ]
          refine dshowC.isSetTake (i := 10) (d := 41) (v := .string x.o) rfl rfl (by kernel_rfl) (by kernel_rfl) (by kernel_rfl) (fun _ _ _ h => h) (by kernel_rfl) rfl (Or.inl ⟨by kernel_rfl, ?_⟩) hS0 ?_
          · intro wz hSw
            obtain ⟨z1, z3, zB⟩ := hSw
            go_simp
          try simp only [Act.put, List.setIfInBounds_toArray, List.set_cons_zero, List.set_cons_succ]
          refine dshowC.isSetTake (i := 11) (d := 42) (v := .bool false) rfl rfl (by kernel_rfl) (by kernel_rfl) (by kernel_rfl) (fun _ _ _ h => h) (by kernel_rfl) rfl (Or.inl ⟨by kernel_rfl, ?_⟩) hS0 ?_
          · intro wz hSw
            obtain ⟨z1, z3, zB⟩ := hSw
            go_simp; first | done | exact hne | exact hne2
          try simp only [Act.put, List.setIfInBounds_toArray, List.set_cons_zero, List.set_cons_succ]
          refine dshowC.isSetTake (i := 12) (d := 43) (v := .bool false) rfl rfl (by kernel_rfl) (by kernel_rfl) (by kernel_rfl) (fun _ _ _ h => h) (by kernel_rfl) rfl (Or.inl ⟨by kernel_rfl, ?_⟩) hS0 ?_
          · intro wz hSw
            obtain ⟨z1, z3, zB⟩ := hSw
            go_simp
          try simp only [Act.put, List.setIfInBounds_toArray, List.set_cons_zero, List.set_cons_succ]
          refine heldG.doneG (by kernel_rfl) ?_ _
          clear hS0
          go_wp2_with fail
          refine (CSD.out _).mono ?_
          rintro e w12 ⟨rfl, hB12⟩
          have hB12 := printW.drew_below hB12
          have HB12 := Lib.hid (HB8.out.trans (hB12.mono HB8.out.size))
          have HY12 := Lib.hid ((hB12.block Y (Array.getElem?_eq_some_iff.1 HY8.out).1).trans HY8.out)
          clear y0 y1 y3 y4 hB12
          have y1 : w12.cell? ⟨Y, 1, none⟩ = some (.int .i64 x.t) := by simp only [World.cell?, HY12.out]; rfl
          have y3 : w12.cell? ⟨Y, 3, none⟩ = some (.int .i64 x.l) := by simp only [World.cell?, HY12.out]; rfl
          go_upto_region 14 with fail
          refine heldG.regionG (fun w' => w'.cell? ⟨Y, 1, none⟩ = some (.int .i64 x.t) ∧ w'.cell? ⟨Y, 3, none⟩ = some (.int .i64 x.l) ∧ Below w.heap.size w w') (fun _ => false) (by kernel_rfl) ?_
          have hS0 : w12.drew.cell? ⟨Y, 1, none⟩ = some (.int .i64 x.t) ∧ w12.drew.cell? ⟨Y, 3, none⟩ = some (.int .i64 x.l) ∧ Below w.heap.size w w12.drew := ⟨y1, y3, HB12.out.drew⟩
          refine dshowC.isSetTake (i := 0) (d := 58) (v := .string (A)) rfl rfl (by kernel_rfl) (by kernel_rfl) (by kernel_rfl) (fun _ _ _ h => h) (by kernel_rfl) rfl (Or.inl ⟨by kernel_rfl, ?_⟩) hS0 ?_
          · intro wz hSw
            obtain ⟨z1, z3, zB⟩ := hSw
            go_simp
          try simp only [Act.put, List.setIfInBounds_toArray, List.set_cons_zero, List.set_cons_succ]
          refine dshowC.isSetTake (i := 1) (d := 59) (v := .pointer (some ⟨Y, 3, none⟩)) rfl rfl (by kernel_rfl) (by kernel_rfl) (by kernel_rfl) (fun _ _ _ h => h) (by kernel_rfl) rfl (Or.inl ⟨by kernel_rfl, ?_⟩) hS0 ?_
          · intro wz hSw
            obtain ⟨z1, z3, zB⟩ := hSw
            go_simp
          try simp only [Act.put, List.setIfInBounds_toArray, List.set_cons_zero, List.set_cons_succ]
          refine dshowC.isSetTake (i := 2) (d := 60) (v := .int .i64 x.l) rfl rfl (by kernel_rfl) (by kernel_rfl) (by kernel_rfl) (fun _ _ _ h => h) (by kernel_rfl) rfl (Or.inl ⟨by kernel_rfl, ?_⟩) hS0 ?_
          · intro wz hSw
            obtain ⟨z1, z3, zB⟩ := hSw
            go_simp
          try simp only [Act.put, List.setIfInBounds_toArray, List.set_cons_zero, List.set_cons_succ]
          refine dshowC.isSetTake (i := 6) (d := 64) (v := .pointer (some ⟨Y, 1, none⟩)) rfl rfl (by kernel_rfl) (by kernel_rfl) (by kernel_rfl) (fun _ _ _ h => h) (by kernel_rfl) rfl (Or.inl ⟨by kernel_rfl, ?_⟩) hS0 ?_
          · intro wz hSw
            obtain ⟨z1, z3, zB⟩ := hSw
            go_simp
          try simp only [Act.put, List.setIfInBounds_toArray, List.set_cons_zero, List.set_cons_succ]
          refine dshowC.isSetTake (i := 7) (d := 65) (v := .int .i64 x.t) rfl rfl (by kernel_rfl) (by kernel_rfl) (by kernel_rfl) (fun _ _ _ h => h) (by kernel_rfl) rfl (Or.inl ⟨by kernel_rfl, ?_⟩) hS0 ?_
          · intro wz hSw
            obtain ⟨z1, z3, zB⟩ := hSw
            go_simp
          try simp only [Act.put, List.setIfInBounds_toArray, List.set_cons_zero, List.set_cons_succ]
          refine dshowC.isSetTake (i := 11) (d := 69) (v := .string D) rfl rfl (by kernel_rfl) (by kernel_rfl) (by kernel_rfl) (fun _ _ _ h => h) (by kernel_rfl) rfl (Or.inl ⟨by kernel_rfl, ?_⟩) hS0 ?_
          · intro wz hSw
            obtain ⟨z1, z3, zB⟩ := hSw
            go_simp
          try simp only [Act.put, List.setIfInBounds_toArray, List.set_cons_zero, List.set_cons_succ]
          refine heldG.readyG (rs := [3]) (by kernel_rfl) (by simp) ?_
          refine heldG.AllG.cons rfl (fun KK hKK => ?_) heldG.AllG.nil
          go_simp
          refine (CI.out _).mono ?_
          rintro en v1 ⟨rfl, hBz⟩
          have hS1 := printW.keep13 hS0 hBz
          dsimp only
          refine hKK.out _ _ (fun _ => hS1) ?_; clear hKK KK hBz
          try simp only [Act.put, List.setIfInBounds_toArray, List.set_cons_zero, List.set_cons_succ]
          refine dshowC.isSetTake (i := 4) (d := 62) (v := .string (⟨#[9]⟩ ++ T1)) rfl rfl (by kernel_rfl) (by kernel_rfl) (by kernel_rfl) (fun _ _ _ h => h) (by kernel_rfl) rfl (Or.inl ⟨by kernel_rfl, ?_⟩) hS1 ?_
          · intro wz hSw
            obtain ⟨z1, z3, zB⟩ := hSw
            go_simp; try omega
          try simp only [Act.put, List.setIfInBounds_toArray, List.set_cons_zero, List.set_cons_succ]
          refine dshowC.isSetTake (i := 5) (d := 63) (v := .string (⟨#[9]⟩ ++ T1 ++ ⟨#[9, 73, 78, 9]⟩)) rfl rfl (by kernel_rfl) (by kernel_rfl) (by kernel_rfl) (fun _ _ _ h => h) (by kernel_rfl) rfl (Or.inl ⟨by kernel_rfl, ?_⟩) hS1 ?_
          · intro wz hSw
            obtain ⟨z1, z3, zB⟩ := hSw
            go_simp; try omega
          try simp only [Act.put, List.setIfInBounds_toArray, List.set_cons_zero, List.set_cons_succ]
          refine heldG.readyG (rs := [8]) (by kernel_rfl) (by simp) ?_
          refine heldG.AllG.cons rfl (fun KK hKK => ?_) heldG.AllG.nil
          go_simp
          refine (CT.out _).mono ?_
          rintro en v2 ⟨rfl, hBz⟩
          have hS2 := printW.keep13 hS1 hBz
          dsimp only
          refine hKK.out _ _ (fun _ => hS2) ?_; clear hKK KK hBz
          try simp only [Act.put, List.setIfInBounds_toArray, List.set_cons_zero, List.set_cons_succ]
          refine dshowC.isSetTake (i := 9) (d := 67) (v := .string (⟨#[9]⟩ ++ T1 ++ ⟨#[9, 73, 78, 9]⟩ ++ T2)) rfl rfl (by kernel_rfl) (by kernel_rfl) (by kernel_rfl) (fun _ _ _ h => h) (by kernel_rfl) rfl (Or.inl ⟨by kernel_rfl, ?_⟩) hS2 ?_
          · intro wz hSw
            obtain ⟨z1, z3, zB⟩ := hSw
            go_simp; try omega
          try simp only [Act.put, List.setIfInBounds_toArray, List.set_cons_zero, List.set_cons_succ]
          refine dshowC.isSetTake (i := 10) (d := 68) (v := .string (⟨#[9]⟩ ++ T1 ++ ⟨#[9, 73, 78, 9]⟩ ++ T2 ++ ⟨#[9]⟩)) rfl rfl (by kernel_rfl) (by kernel_rfl) (by kernel_rfl) (fun _ _ _ h => h) (by kernel_rfl) rfl (Or.inl ⟨by kernel_rfl, ?_⟩) hS2 ?_
          · intro wz hSw
            obtain ⟨z1, z3, zB⟩ := hSw
            go_simp; try omega
          try simp only [Act.put, List.setIfInBounds_toArray, List.set_cons_zero, List.set_cons_succ]
          refine dshowC.isSetTake (i := 12) (d := 70) (v := .string (⟨#[9]⟩ ++ T1 ++ ⟨#[9, 73, 78, 9]⟩ ++ T2 ++ ⟨#[9]⟩ ++ D)) rfl rfl (by kernel_rfl) (by kernel_rfl) (by kernel_rfl) (fun _ _ _ h => h) (by kernel_rfl) rfl (Or.inl ⟨by kernel_rfl, ?_⟩) hS2 ?_
          · intro wz hSw
            obtain ⟨z1, z3, zB⟩ := hSw
            go_simp; try omega
          try simp only [Act.put, List.setIfInBounds_toArray, List.set_cons_zero, List.set_cons_succ]
          refine dshowC.isSetTake (i := 13) (d := 71) (v := .string (⟨#[9]⟩ ++ T1 ++ ⟨#[9, 73, 78, 9]⟩ ++ T2 ++ ⟨#[9]⟩ ++ D ++ ⟨#[10]⟩)) rfl rfl (by kernel_rfl) (by kernel_rfl) (by kernel_rfl) (fun _ _ _ h => h) (by kernel_rfl) rfl (Or.inl ⟨by kernel_rfl, ?_⟩) hS2 ?_
          · intro wz hSw
            obtain ⟨z1, z3, zB⟩ := hSw
            go_simp; try omega
          try simp only [Act.put, List.setIfInBounds_toArray, List.set_cons_zero, List.set_cons_succ]
          refine dshowC.isSetTake (i := 14) (d := 72) (v := .string (A ++ (⟨#[9]⟩ ++ T1 ++ ⟨#[9, 73, 78, 9]⟩ ++ T2 ++ ⟨#[9]⟩ ++ D ++ ⟨#[10]⟩))) rfl rfl (by kernel_rfl) (by kernel_rfl) (by kernel_rfl) (fun _ _ _ h => h) (by kernel_rfl) rfl (Or.inl ⟨by kernel_rfl, ?_⟩) hS2 ?_
          · intro wz hSw
            obtain ⟨z1, z3, zB⟩ := hSw
            go_simp; try omega
          try simp only [Act.put, List.setIfInBounds_toArray, List.set_cons_zero, List.set_cons_succ]
          refine dshowC.isSetTake (i := 15) (d := 6) (v := .string (A ++ (⟨#[9]⟩ ++ T1 ++ ⟨#[9, 73, 78, 9]⟩ ++ T2 ++ ⟨#[9]⟩ ++ D ++ ⟨#[10]⟩))) rfl rfl (by kernel_rfl) (by kernel_rfl) (by kernel_rfl) (fun _ _ _ h => h) (by kernel_rfl) rfl (Or.inl ⟨by kernel_rfl, ?_⟩) hS2 ?_
          · intro wz hSw
            obtain ⟨z1, z3, zB⟩ := hSw
            go_simp
          try simp only [Act.put, List.setIfInBounds_toArray, List.set_cons_zero, List.set_cons_succ]
          refine heldG.doneG (by kernel_rfl) ?_ _
          have HB2 := Lib.hid hS2.2.2
          clear hS0 hS1 hS2
          obtain ⟨Z, hZ⟩ : ∃ Z, A ++ (⟨#[9]⟩ ++ T1 ++ ⟨#[9, 73, 78, 9]⟩ ++ T2 ++ ⟨#[9]⟩ ++ D ++ ⟨#[10]⟩) = Z := ⟨_, rfl⟩
          rw [hZ] at HSZ HDAT ⊢
          clear hZ hAL hAS hEL hsum hs5
          go_wp2_with fail
          have hkg := HKG.out
          go_roundg (gk - 1)
          case rel =>
            refine ⟨k + 1, Z, rfl, ?_, hkn, ?_, HSZ.out, Lib.hid (by rw [prev_succ HX.out, HDAT.out]; exact HGO.out), HB2⟩
            · go_num
            · omega
          case measure => omega
        · have hne : (p.o.toList != x.o.toList) = true := by rw [bne_iff_ne, Lib.toList_data, Lib.toList_data]; exact fun h => hsame h.symm
          have hne2 : (p.o.toList == x.o.toList) = false := by rw [str_eqB, decide_eq_false_iff_not]; exact fun h => hsame h.symm
          have hown : ownerS (prevS L k) O.data.toList x = Q.data.toList := by unfold ownerS; rw [hpv, if_neg hsame, HQD.out]
          obtain ⟨E, HREST⟩ : ∃ E, Hid ((A.data.toList ++ Q.data.toList) ++ restS x = E) := ⟨_, Lib.hid rfl⟩
          have HGO : Hid ((linesS O.data.toList x.o.data.toList (L.drop (k + 1))).map (E ++ ·) = RR) := Lib.hid (by
            have h := HGO0.out
            rw [hown] at h
            rw [HREST.out] at h; exact h)
          have hs5 := sum_sizes T1 T2 D
          have HDAT : Hid ((A ++ Q ++ (⟨#[9]⟩ ++ T1 ++ ⟨#[9, 73, 78, 9]⟩ ++ T2 ++ ⟨#[9]⟩ ++ D ++ ⟨#[10]⟩) : ByteArray).data.toList = E) := Lib.hid (by
            rw [← HREST.out]; unfold restS; rw [← HT1.out, ← HT2.out, ← HDD.out]; simp)
          have hrs := printW.rest_len (x := x) HDD.out HT1.out HT2.out
          have hr2 : (restS x).length ≤ 131094030 := by rw [hrs]; omega
          have hEe : E.length = A.size + Q.size + (restS x).length := by rw [← HREST.out, List.length_append, List.length_append, size_len, size_len]
          have hE0 : E.length ≤ 1200 + 131100000 * (k + 1) := printW.len_step2 hEe hAL hQs (Nat.le_trans hr2 (by decide))
          have HSZ : Hid ((A ++ Q ++ (⟨#[9]⟩ ++ T1 ++ ⟨#[9, 73, 78, 9]⟩ ++ T2 ++ ⟨#[9]⟩ ++ D ++ ⟨#[10]⟩) : ByteArray).size ≤ 1200 + 131100000 * (k + 1)) := Lib.hid (by rw [← size_len, HDAT.out]; exact hE0)
          have hEL : (A ++ Q ++ (⟨#[9]⟩ ++ T1 ++ ⟨#[9, 73, 78, 9]⟩ ++ T2 ++ ⟨#[9]⟩ ++ D ++ ⟨#[10]⟩) : ByteArray).size ≤ 1099511627776 := by rw [← size_len, HDAT.out]; exact printW.len_top hE0 hkn hbig
          have hAS : A.size ≤ 1099511627776 := Nat.le_trans hAL (Nat.le_trans (Nat.add_le_add_left (Nat.mul_le_mul_left 131100000 (show k ≤ 2000 by omega)) 1200) (by decide))
          have hsum : (⟨#[9]⟩ ++ T1 ++ ⟨#[9, 73, 78, 9]⟩ ++ T2 ++ ⟨#[9]⟩ ++ D ++ ⟨#[10]⟩ : ByteArray).size ≤ 140000000 := by rw [hs5]; omega
          clear hrs hr2 hEe hE0
          refine heldG.regionG (fun w' => w'.cell? ⟨g, o + (k - 1) * 5, none⟩ = some (.string p.o) ∧ w'.cell? ⟨Y, 0, none⟩ = some (.string x.o) ∧ Below w.heap.size w w') (fun _ => false) (by kernel_rfl) ?_
          have hS0 : w8.drew.cell? ⟨g, o + (k - 1) * 5, none⟩ = some (.string p.o) ∧ w8.drew.cell? ⟨Y, 0, none⟩ = some (.string x.o) ∧ Below w.heap.size w w8.drew := ⟨p0, y0, HB8.out.drew⟩
          refine dshowC.isSetTake (i := 0) (d := 31) (v := .int .i64 (k : Int)) rfl rfl (by kernel_rfl) (by kernel_rfl) (by kernel_rfl) (fun _ _ _ h => h) (by kernel_rfl) rfl (Or.inl ⟨by kernel_rfl, ?_⟩) hS0 ?_
          · intro wz hSw
            obtain ⟨z1, z3, zB⟩ := hSw
            go_simp
          try simp only [Act.put, List.setIfInBounds_toArray, List.set_cons_zero, List.set_cons_succ]
          refine dshowC.isSetTake (i := 1) (d := 32) (v := .bool false) rfl rfl (by kernel_rfl) (by kernel_rfl) (by kernel_rfl) (fun _ _ _ h => h) (by kernel_rfl) rfl (Or.inl ⟨by kernel_rfl, ?_⟩) hS0 ?_
          · intro wz hSw
            obtain ⟨z1, z3, zB⟩ := hSw
            go_simp; first | done | exact hk0b
          try simp only [Act.put, List.setIfInBounds_toArray, List.set_cons_zero, List.set_cons_succ]
          refine dshowC.isSetTake (i := 2) (d := 33) (v := .bool false) rfl rfl (by kernel_rfl) (by kernel_rfl) (by kernel_rfl) (fun _ _ _ h => h) (by kernel_rfl) rfl (Or.inl ⟨by kernel_rfl, ?_⟩) hS0 ?_
          · intro wz hSw
            obtain ⟨z1, z3, zB⟩ := hSw
            go_simp
          try simp only [Act.put, List.setIfInBounds_toArray, List.set_cons_zero, List.set_cons_succ]
          refine dshowC.isSetTake (i := 3) (d := 34) (v := .slice (some ⟨g, o, none⟩) n c) rfl rfl (by kernel_rfl) (by kernel_rfl) (by kernel_rfl) (fun _ _ _ h => h) (by kernel_rfl) rfl (Or.inl ⟨by kernel_rfl, ?_⟩) hS0 ?_
          · intro wz hSw
            obtain ⟨z1, z3, zB⟩ := hSw
            go_simp
          try simp only [Act.put, List.setIfInBounds_toArray, List.set_cons_zero, List.set_cons_succ]
          refine dshowC.isSetTake (i := 4) (d := 35) (v := .int .i64 (k : Int)) rfl rfl (by kernel_rfl) (by kernel_rfl) (by kernel_rfl) (fun _ _ _ h => h) (by kernel_rfl) rfl (Or.inl ⟨by kernel_rfl, ?_⟩) hS0 ?_
          · intro wz hSw
            obtain ⟨z1, z3, zB⟩ := hSw
            go_simp
          try simp only [Act.put, List.setIfInBounds_toArray, List.set_cons_zero, List.set_cons_succ]
          refine dshowC.isSetTake (i := 5) (d := 36) (v := .int .i64 ((k - 1 : Nat) : Int)) rfl rfl (by kernel_rfl) (by kernel_rfl) (by kernel_rfl) (fun _ _ _ h => h) (by kernel_rfl) rfl (Or.inl ⟨by kernel_rfl, ?_⟩) hS0 ?_
          · intro wz hSw
            obtain ⟨z1, z3, zB⟩ := hSw
            go_simp; first | done | omega | (rw [IntWalk.i64_in _ (by omega)]; omega)
          try simp only [Act.put, List.setIfInBounds_toArray, List.set_cons_zero, List.set_cons_succ]
          refine dshowC.isSetTake (i := 6) (d := 37) (v := .pointer (some ⟨g, o + (k - 1) * 5, none⟩)) rfl rfl (by kernel_rfl) (by kernel_rfl) (by kernel_rfl) (fun _ _ _ h => h) (by kernel_rfl) rfl (Or.inl ⟨by kernel_rfl, ?_⟩) hS0 ?_
          · intro wz hSw
            obtain ⟨z1, z3, zB⟩ := hSw
            go_simp; try (intro h0; exfalso; omega)
          try simp only [Act.put, List.setIfInBounds_toArray, List.set_cons_zero, List.set_cons_succ]
          refine dshowC.isSetTake (i := 7) (d := 38) (v := .pointer (some ⟨g, o + (k - 1) * 5, none⟩)) rfl rfl (by kernel_rfl) (by kernel_rfl) (by kernel_rfl) (fun _ _ _ h => h) (by kernel_rfl) rfl (Or.inl ⟨by kernel_rfl, ?_⟩) hS0 ?_
          · intro wz hSw
            obtain ⟨z1, z3, zB⟩ := hSw
            go_simp
          try simp only [Act.put, List.setIfInBounds_toArray, List.set_cons_zero, List.set_cons_succ]
          refine dshowC.isSetTake (i := 8) (d := 39) (v := .string p.o) rfl rfl (by kernel_rfl) (by kernel_rfl) (by kernel_rfl) (fun _ _ _ h => h) (by kernel_rfl) rfl (Or.inl ⟨by kernel_rfl, ?_⟩) hS0 ?_
          · intro wz hSw
            obtain ⟨z1, z3, zB⟩ := hSw
            go_simp
          try simp only [Act.put, List.setIfInBounds_toArray, List.set_cons_zero, List.set_cons_succ]
          refine dshowC.isSetTake (i := 9) (d := 40) (v := .pointer (some ⟨Y, 0, none⟩)) rfl rfl (by kernel_rfl) (by kernel_rfl) (by kernel_rfl) (fun _ _ _ h => h) (by kernel_rfl) rfl (Or.inl ⟨by kernel_rfl, ?_⟩) hS0 ?_
          · intro wz hSw
            obtain ⟨z1, z3, zB⟩ := hSw
            go_simp
          try simp only [Act.put, List.setIfInBounds_toArray, List.set_cons_zero, List.set_cons_succ]
          refine dshowC.isSetTake (i := 10) (d := 41) (v := .string x.o) rfl rfl (by kernel_rfl) (by kernel_rfl) (by kernel_rfl) (fun _ _ _ h => h) (by kernel_rfl) rfl (Or.inl ⟨by kernel_rfl, ?_⟩) hS0 ?_
          · intro wz hSw
            obtain ⟨z1, z3, zB⟩ := hSw
            go_simp
          try simp only [Act.put, List.setIfInBounds_toArray, List.set_cons_zero, List.set_cons_succ]
          refine dshowC.isSetTake (i := 11) (d := 42) (v := .bool true) rfl rfl (by kernel_rfl) (by kernel_rfl) (by kernel_rfl) (fun _ _ _ h => h) (by kernel_rfl) rfl (Or.inl ⟨by kernel_rfl, ?_⟩) hS0 ?_
          · intro wz hSw
            obtain ⟨z1, z3, zB⟩ := hSw
            go_simp; first | done | exact hne | exact hne2
          try simp only [Act.put, List.setIfInBounds_toArray, List.set_cons_zero, List.set_cons_succ]
          refine dshowC.isSetTake (i := 12) (d := 43) (v := .bool true) rfl rfl (by kernel_rfl) (by kernel_rfl) (by kernel_rfl) (fun _ _ _ h => h) (by kernel_rfl) rfl (Or.inl ⟨by kernel_rfl, ?_⟩) hS0 ?_
          · intro wz hSw
            obtain ⟨z1, z3, zB⟩ := hSw
            go_simp
          try simp only [Act.put, List.setIfInBounds_toArray, List.set_cons_zero, List.set_cons_succ]
          refine heldG.doneG (by kernel_rfl) ?_ _
          clear hS0
          go_wp2_with fail
          refine (CR.out _).mono ?_
          rintro e w10 ⟨rfl, hB10d⟩
          have hB10 := printW.drew_below hB10d
          clear hB10d
          have HB10 := Lib.hid (HB8.out.trans (hB10.mono HB8.out.size))
          have HY10 := Lib.hid ((hB10.block Y (Array.getElem?_eq_some_iff.1 HY8.out).1).trans HY8.out)
          clear y0 y1 y3 y4 hB10
          have y0 : w10.cell? ⟨Y, 0, none⟩ = some (.string x.o) := by simp only [World.cell?, HY10.out]; rfl
          have y1 : w10.cell? ⟨Y, 1, none⟩ = some (.int .i64 x.t) := by simp only [World.cell?, HY10.out]; rfl
          have y3 : w10.cell? ⟨Y, 3, none⟩ = some (.int .i64 x.l) := by simp only [World.cell?, HY10.out]; rfl
          have y4 : w10.cell? ⟨Y, 4, none⟩ = some (.string x.d) := by simp only [World.cell?, HY10.out]; rfl
          have hAQ : (A ++ Q).size ≤ 1099511628900 := by rw [ByteArray.size_append]; omega
          go_wp2_with fail
          refine (CSD.out _).mono ?_
          rintro e w12 ⟨rfl, hB12⟩
          skip
          have HB12 := Lib.hid (HB10.out.trans (hB12.mono HB10.out.size))
          have HY12 := Lib.hid ((hB12.block Y (Array.getElem?_eq_some_iff.1 HY10.out).1).trans HY10.out)
          clear y0 y1 y3 y4 hB12
          have y1 : w12.cell? ⟨Y, 1, none⟩ = some (.int .i64 x.t) := by simp only [World.cell?, HY12.out]; rfl
          have y3 : w12.cell? ⟨Y, 3, none⟩ = some (.int .i64 x.l) := by simp only [World.cell?, HY12.out]; rfl
          go_upto_region 14 with fail
          refine heldG.regionG (fun w' => w'.cell? ⟨Y, 1, none⟩ = some (.int .i64 x.t) ∧ w'.cell? ⟨Y, 3, none⟩ = some (.int .i64 x.l) ∧ Below w.heap.size w w') (fun _ => false) (by kernel_rfl) ?_
          have hS0 : w12.drew.cell? ⟨Y, 1, none⟩ = some (.int .i64 x.t) ∧ w12.drew.cell? ⟨Y, 3, none⟩ = some (.int .i64 x.l) ∧ Below w.heap.size w w12.drew := ⟨y1, y3, HB12.out.drew⟩
          refine dshowC.isSetTake (i := 0) (d := 58) (v := .string (A ++ Q)) rfl rfl (by kernel_rfl) (by kernel_rfl) (by kernel_rfl) (fun _ _ _ h => h) (by kernel_rfl) rfl (Or.inl ⟨by kernel_rfl, ?_⟩) hS0 ?_
          · intro wz hSw
            obtain ⟨z1, z3, zB⟩ := hSw
            go_simp
          try simp only [Act.put, List.setIfInBounds_toArray, List.set_cons_zero, List.set_cons_succ]
          refine dshowC.isSetTake (i := 1) (d := 59) (v := .pointer (some ⟨Y, 3, none⟩)) rfl rfl (by kernel_rfl) (by kernel_rfl) (by kernel_rfl) (fun _ _ _ h => h) (by kernel_rfl) rfl (Or.inl ⟨by kernel_rfl, ?_⟩) hS0 ?_
          · intro wz hSw
            obtain ⟨z1, z3, zB⟩ := hSw
            go_simp
          try simp only [Act.put, List.setIfInBounds_toArray, List.set_cons_zero, List.set_cons_succ]
          refine dshowC.isSetTake (i := 2) (d := 60) (v := .int .i64 x.l) rfl rfl (by kernel_rfl) (by kernel_rfl) (by kernel_rfl) (fun _ _ _ h => h) (by kernel_rfl) rfl (Or.inl ⟨by kernel_rfl, ?_⟩) hS0 ?_
          · intro wz hSw
            obtain ⟨z1, z3, zB⟩ := hSw
            go_simp
          try simp only [Act.put, List.setIfInBounds_toArray, List.set_cons_zero, List.set_cons_succ]
          refine dshowC.isSetTake (i := 6) (d := 64) (v := .pointer (some ⟨Y, 1, none⟩)) rfl rfl (by kernel_rfl) (by kernel_rfl) (by kernel_rfl) (fun _ _ _ h => h) (by kernel_rfl) rfl (Or.inl ⟨by kernel_rfl, ?_⟩) hS0 ?_
          · intro wz hSw
            obtain ⟨z1, z3, zB⟩ := hSw
            go_simp
          try simp only [Act.put, List.setIfInBounds_toArray, List.set_cons_zero, List.set_cons_succ]
          refine dshowC.isSetTake (i := 7) (d := 65) (v := .int .i64 x.t) rfl rfl (by kernel_rfl) (by kernel_rfl) (by kernel_rfl) (fun _ _ _ h => h) (by kernel_rfl) rfl (Or.inl ⟨by kernel_rfl, ?_⟩) hS0 ?_
          · intro wz hSw
            obtain ⟨z1, z3, zB⟩ := hSw
            go_simp
          try simp only [Act.put, List.setIfInBounds_toArray, List.set_cons_zero, List.set_cons_succ]
          refine dshowC.isSetTake (i := 11) (d := 69) (v := .string D) rfl rfl (by kernel_rfl) (by kernel_rfl) (by kernel_rfl) (fun _ _ _ h => h) (by kernel_rfl) rfl (Or.inl ⟨by kernel_rfl, ?_⟩) hS0 ?_
          · intro wz hSw
            obtain ⟨z1, z3, zB⟩ := hSw
            go_simp
          try simp only [Act.put, List.setIfInBounds_toArray, List.set_cons_zero, List.set_cons_succ]
          refine heldG.readyG (rs := [3]) (by kernel_rfl) (by simp) ?_
          refine heldG.AllG.cons rfl (fun KK hKK => ?_) heldG.AllG.nil
          go_simp
          refine (CI.out _).mono ?_
          rintro en v1 ⟨rfl, hBz⟩
          have hS1 := printW.keep13 hS0 hBz
          dsimp only
          refine hKK.out _ _ (fun _ => hS1) ?_; clear hKK KK hBz
          try simp only [Act.put, List.setIfInBounds_toArray, List.set_cons_zero, List.set_cons_succ]
          refine dshowC.isSetTake (i := 4) (d := 62) (v := .string (⟨#[9]⟩ ++ T1)) rfl rfl (by kernel_rfl) (by kernel_rfl) (by kernel_rfl) (fun _ _ _ h => h) (by kernel_rfl) rfl (Or.inl ⟨by kernel_rfl, ?_⟩) hS1 ?_
          · intro wz hSw
            obtain ⟨z1, z3, zB⟩ := hSw
            go_simp; try omega
          try simp only [Act.put, List.setIfInBounds_toArray, List.set_cons_zero, List.set_cons_succ]
          refine dshowC.isSetTake (i := 5) (d := 63) (v := .string (⟨#[9]⟩ ++ T1 ++ ⟨#[9, 73, 78, 9]⟩)) rfl rfl (by kernel_rfl) (by kernel_rfl) (by kernel_rfl) (fun _ _ _ h => h) (by kernel_rfl) rfl (Or.inl ⟨by kernel_rfl, ?_⟩) hS1 ?_
          · intro wz hSw
            obtain ⟨z1, z3, zB⟩ := hSw
            go_simp; try omega
          try simp only [Act.put, List.setIfInBounds_toArray, List.set_cons_zero, List.set_cons_succ]
          refine heldG.readyG (rs := [8]) (by kernel_rfl) (by simp) ?_
          refine heldG.AllG.cons rfl (fun KK hKK => ?_) heldG.AllG.nil
          go_simp
          refine (CT.out _).mono ?_
          rintro en v2 ⟨rfl, hBz⟩
          have hS2 := printW.keep13 hS1 hBz
          dsimp only
          refine hKK.out _ _ (fun _ => hS2) ?_; clear hKK KK hBz
          try simp only [Act.put, List.setIfInBounds_toArray, List.set_cons_zero, List.set_cons_succ]
          refine dshowC.isSetTake (i := 9) (d := 67) (v := .string (⟨#[9]⟩ ++ T1 ++ ⟨#[9, 73, 78, 9]⟩ ++ T2)) rfl rfl (by kernel_rfl) (by kernel_rfl) (by kernel_rfl) (fun _ _ _ h => h) (by kernel_rfl) rfl (Or.inl ⟨by kernel_rfl, ?_⟩) hS2 ?_
          · intro wz hSw
            obtain ⟨z1, z3, zB⟩ := hSw
            go_simp; try omega
          try simp only [Act.put, List.setIfInBounds_toArray, List.set_cons_zero, List.set_cons_succ]
          refine dshowC.isSetTake (i := 10) (d := 68) (v := .string (⟨#[9]⟩ ++ T1 ++ ⟨#[9, 73, 78, 9]⟩ ++ T2 ++ ⟨#[9]⟩)) rfl rfl (by kernel_rfl) (by kernel_rfl) (by kernel_rfl) (fun _ _ _ h => h) (by kernel_rfl) rfl (Or.inl ⟨by kernel_rfl, ?_⟩) hS2 ?_
          · intro wz hSw
            obtain ⟨z1, z3, zB⟩ := hSw
            go_simp; try omega
          try simp only [Act.put, List.setIfInBounds_toArray, List.set_cons_zero, List.set_cons_succ]
          refine dshowC.isSetTake (i := 12) (d := 70) (v := .string (⟨#[9]⟩ ++ T1 ++ ⟨#[9, 73, 78, 9]⟩ ++ T2 ++ ⟨#[9]⟩ ++ D)) rfl rfl (by kernel_rfl) (by kernel_rfl) (by kernel_rfl) (fun _ _ _ h => h) (by kernel_rfl) rfl (Or.inl ⟨by kernel_rfl, ?_⟩) hS2 ?_
          · intro wz hSw
            obtain ⟨z1, z3, zB⟩ := hSw
            go_simp; try omega
          try simp only [Act.put, List.setIfInBounds_toArray, List.set_cons_zero, List.set_cons_succ]
          refine dshowC.isSetTake (i := 13) (d := 71) (v := .string (⟨#[9]⟩ ++ T1 ++ ⟨#[9, 73, 78, 9]⟩ ++ T2 ++ ⟨#[9]⟩ ++ D ++ ⟨#[10]⟩)) rfl rfl (by kernel_rfl) (by kernel_rfl) (by kernel_rfl) (fun _ _ _ h => h) (by kernel_rfl) rfl (Or.inl ⟨by kernel_rfl, ?_⟩) hS2 ?_
          · intro wz hSw
            obtain ⟨z1, z3, zB⟩ := hSw
            go_simp; try omega
          try simp only [Act.put, List.setIfInBounds_toArray, List.set_cons_zero, List.set_cons_succ]
          refine dshowC.isSetTake (i := 14) (d := 72) (v := .string (A ++ Q ++ (⟨#[9]⟩ ++ T1 ++ ⟨#[9, 73, 78, 9]⟩ ++ T2 ++ ⟨#[9]⟩ ++ D ++ ⟨#[10]⟩))) rfl rfl (by kernel_rfl) (by kernel_rfl) (by kernel_rfl) (fun _ _ _ h => h) (by kernel_rfl) rfl (Or.inl ⟨by kernel_rfl, ?_⟩) hS2 ?_
          · intro wz hSw
            obtain ⟨z1, z3, zB⟩ := hSw
            go_simp; try omega
          try simp only [Act.put, List.setIfInBounds_toArray, List.set_cons_zero, List.set_cons_succ]
          refine dshowC.isSetTake (i := 15) (d := 6) (v := .string (A ++ Q ++ (⟨#[9]⟩ ++ T1 ++ ⟨#[9, 73, 78, 9]⟩ ++ T2 ++ ⟨#[9]⟩ ++ D ++ ⟨#[10]⟩))) rfl rfl (by kernel_rfl) (by kernel_rfl) (by kernel_rfl) (fun _ _ _ h => h) (by kernel_rfl) rfl (Or.inl ⟨by kernel_rfl, ?_⟩) hS2 ?_
          · intro wz hSw
            obtain ⟨z1, z3, zB⟩ := hSw
            go_simp
          try simp only [Act.put, List.setIfInBounds_toArray, List.set_cons_zero, List.set_cons_succ]
          refine heldG.doneG (by kernel_rfl) ?_ _
          have HB2 := Lib.hid hS2.2.2
          clear hS0 hS1 hS2
          obtain ⟨Z, hZ⟩ : ∃ Z, A ++ Q ++ (⟨#[9]⟩ ++ T1 ++ ⟨#[9, 73, 78, 9]⟩ ++ T2 ++ ⟨#[9]⟩ ++ D ++ ⟨#[10]⟩) = Z := ⟨_, rfl⟩
          rw [hZ] at HSZ HDAT ⊢
          clear hZ hAL hAS hEL hsum hs5
          go_wp2_with fail
          have hkg := HKG.out
          go_roundg (gk - 1)
          case rel =>
            refine ⟨k + 1, Z, rfl, ?_, hkn, ?_, HSZ.out, Lib.hid (by rw [prev_succ HX.out, HDAT.out]; exact HGO.out), HB2⟩
            · go_num
            · omega
          case measure => omega
    · have hke : L.length ≤ k := by have := HNN.out; omega
      have HE : Hid (RR = some A.data.toList) := Lib.hid (add_end HW.out hke)
      go_wp2_with fail
      go_ret2
      exact ⟨by rw [HE.out]; rfl, HB.out⟩
end Go.Proofs.YtjejmgdpjfdhjaaGreatDoor.rprintW
namespace Go.Proofs.YtjejmgdpjfdhjaaGreatDoor.same
open Go.RowKit Go.Proofs.YtjejmgdpjfdhjaaGreatDoor.kit Go.Proofs.YtjejmgdpjfdhjaaGreatDoor.timed Go.Proofs.YtjejmgdpjfdhjaaGreatDoor.nspec Go.Proofs.YtjejmgdpjfdhjaaGreatDoor.coded Go.Proofs.YtjejmgdpjfdhjaaGreatDoor.wireP Go.Proofs.YtjejmgdpjfdhjaaGreatDoor.wireM Go.Proofs.YtjejmgdpjfdhjaaGreatDoor.rows
set_option linter.unusedVariables false

def spareR : Rc := ⟨⟨#[115, 112, 97, 114, 101]⟩, -77, -77, -77, ⟨#[115, 112, 97, 114, 101]⟩⟩
set_option maxRecDepth 100000 in
theorem spare_any (w : World) : Calls Tryz.prog 23 #[] w fun e w' => e = .returned (.agg #[.string ⟨#[115, 112, 97, 114, 101]⟩, .int .i64 (-77), .int .i64 (-77), .int .i64 (-77), .string ⟨#[115, 112, 97, 114, 101]⟩]) ∧ Below w.heap.size w w' := by
  go_enter Tryz.func23, Tryz.ntmps23
  go_wp2_with fail
  refine bodyPost_ret (v := .agg #[.string ⟨#[115, 112, 97, 114, 101]⟩, .int .i64 (-77), .int .i64 (-77), .int .i64 (-77), .string ⟨#[115, 112, 97, 114, 101]⟩]) (by simp [results, Tryz.results23, go_sem]) rfl ⟨rfl, ?_⟩
  exact (Below.refl _ _).alloc (Nat.le_refl _) _

set_option maxRecDepth 100000 in
set_option maxHeartbeats 2000000 in
theorem records_same (a b : Option Addr) (n c d : Nat) (L : List Rc) (w : World) (hn : n = L.length) (hx : RdC w a 5 (L.map Rc.cells)) (hy : RdC w b 5 (L.map Rc.cells)) (hl : n ≤ 1099511627776) :
    Calls Tryz.prog 36 #[.slice a n c, .slice b n d] w fun e w' => e = .returned (.bool true) ∧ Below w.heap.size w w' := by
  have HN := Lib.hid hn; have HX := Lib.hid hx; have HY := Lib.hid hy
  clear hn hx hy
  go_enter Tryz.func36, Tryz.ntmps36
  go_wp2
  go_loopg [5, 13] (n + 1) (fun gas _ kv wr => ∃ (k : Nat), kv = .int .i64 k ∧ k ≤ n ∧ k + gas = n + 1 ∧ Hid (Below w.heap.size w wr))
  case atStart => exact ⟨0, rfl, by omega, by omega, Lib.hid (Below.refl _ _)⟩
  case round =>
    obtain ⟨k, rfl, hk, hkg, hB⟩ := hrel
    have HK := Lib.hid hkg; clear hkg
    by_cases hlt : k < n
    · obtain ⟨x, hp⟩ : ∃ x, L[k]? = some x := ⟨_, List.getElem?_eq_getElem (by have := HN.out; omega)⟩
      obtain ⟨g1, o1, rfl, hg1, hcl1⟩ := at_r HX.out hp
      obtain ⟨g2, o2, rfl, hg2, hcl2⟩ := at_r HY.out hp
      obtain ⟨x0, x1, x2, x3, x4⟩ := hcl1.below hB.out hg1
      obtain ⟨y0, y1, y2, y3, y4⟩ := hcl2.below hB.out hg2
      clear hp hcl1 hcl2
      have zk : (0 : Int) ≤ (k : Int) := by omega
      have zl : (k : Int) < (n : Int) := by omega
      go_wp2_with fail
      go_quiet (fail)
      have hBn : Hid (Below w.heap.size w (wr.drewN nq)) := Lib.hid (bel_drewN hB.out nq)
      go_wp2
      have hkg := HK.out
      go_roundg (gk - 1)
      case rel => exact ⟨k + 1, by go_num, by omega, by omega, hBn⟩
      case measure => omega
    · go_wp2_with fail
      go_ret
      exact ⟨rfl, hB.out⟩
theorem flat_snoc2 (L : List Rc) : L.flatMap Rc.cells ++ (spareR.cells ++ spareR.cells) = (L ++ [spareR, spareR]).flatMap Rc.cells := by simp
/-- a part of the rows -/
theorem rdc_part {w : World} {a : Option Addr} {n : Nat} {L M : List (List Value)} (h : RdC w a n (L ++ M)) : RdC w a n L := by
  intro j x hx
  exact h j x (by rw [List.getElem?_append_left (List.getElem?_eq_some_iff.1 hx).1]; exact hx)
set_option maxRecDepth 100000 in
set_option maxHeartbeats 4000000 in
theorem twin_any (a : Option Addr) (n c : Nat) (L : List Rc) (w : World) (hn : n = L.length) (hr : RdC w a 5 (L.map Rc.cells)) (ha : a = none → L.length = 0 ∧ c = 0) (hl : n ≤ 1099511627776) :
    Calls Tryz.prog 7 #[.slice a n c] w fun e w' => ∃ g cap, e = .returned (.slice (some ⟨g, 0, none⟩) n cap) ∧ n + 2 ≤ cap ∧ cap ≤ maxLen ∧ w'.ownsRow w.heap.size 47 5 (.slice (some ⟨g, 0, none⟩) (n + 2) cap) (n + 2) ((L ++ [spareR, spareR]).flatMap Rc.cells) ∧ Below w.heap.size w w' := by
  obtain ⟨i0, hi, hz0, hz1, hz2⟩ := info_parts infoRec
  have S1 := Lib.hid (cells_rd Rc.cells 5 (by decide) (fun _ => rfl) hr c ha)
  rw [← hn] at S1
  have HN := Lib.hid hn
  clear hr ha hn
  go_enter Tryz.func7, Tryz.ntmps7
  go_wp2_with (at_builtin; refine wpList_append_src rfl (.const (.slice none 0 0)) (.tmp 4) 26 rfl w.heap.size 47 i0 _ 5 56 Tryz.underlying26 hi hz0 hz1 hz2 rfl (by decide) _ 0 [] rfl (World.ownsRow_nil _ _ _ _) a n c (L.flatMap Rc.cells) rfl (by rw [flat_len Rc.cells 5 (fun _ => rfl), HN.out]) S1.out (one_cells rec_one) (by unfold maxLen; omega) (by omega) (Nat.le_refl _) ?_)
  intro v1 w1 hown1 hgr1
  have hB1 : Below w.heap.size w w1 := below_append' (Below.refl _ _) (Nat.le_refl _) (World.ownsRow_nil _ w.heap.size 47 5) hgr1
  have HOW1 : Hid (w1.ownsRow w.heap.size 47 5 v1 n (L.flatMap Rc.cells)) := Lib.hid (by first | exact hown1 | simpa using hown1)
  have HB1 := Lib.hid hB1
  clear hown1 hgr1 hB1
  go_wp2_with fail
  refine (spare_any _).mono ?_
  rintro e w2 ⟨rfl, hB2⟩
  go_wp2_with fail
  refine (spare_any _).mono ?_
  rintro e w3 ⟨rfl, hB3⟩
  have HB3 := Lib.hid (hB2.trans (hB3.mono hB2.size))
  have HOW3 : Hid (w3.ownsRow w.heap.size 47 5 v1 n (L.flatMap Rc.cells)) := Lib.hid (own_keptG HOW1.out (fun k cu hk => (HB3.out.block k (Array.getElem?_eq_some_iff.1 hk).1).trans hk))
  have HB1' := Lib.hid (HB1.out.trans (HB3.out.mono HB1.out.size))
  clear hB2 hB3
  have hz3 : w.heap.size ≤ w3.heap.size := HB1'.out.size
  go_wp2_with (at_builtin; refine wpList_append_own _ rfl _ _ 26 rfl w.heap.size 47 i0 _ 5 56 Tryz.underlying26 hi hz0 hz1 hz2 rfl (by decide) _ n (L.flatMap Rc.cells) rfl (HOW3.out.alloc _) ⟨w3.heap.size, 0, none⟩ 2 2 (spareR.cells ++ spareR.cells) rfl rfl ?c1 ?c2 ?c3 ?c4 ?c5 ?_)
  case c1 => exact World.news_of_block (heap_alloc_new _ _)
  case c2 => intro u hu; rcases List.mem_append.1 hu with h | h <;> exact rec_one _ _ h
  case c3 => unfold maxLen; omega
  case c4 => omega
  case c5 => simp; omega
  intro v4 w4 hown4 hgr4 _
  have hB4 : Below w.heap.size w w4 := ((HB1'.out.alloc hz3 _).grown hgr4 (by simp; omega) (fun k hk => (HOW3.out.lt k hk).1))
  rw [flat_snoc2] at hown4
  obtain ⟨g, cap, rfl, hg1, hg2, _, _, cur, hgh⟩ := rows.own_at hown4 (by omega)
  have hcap : n + 2 ≤ cap ∧ cap ≤ maxLen := by
    rcases hown4.2 with ⟨h0, _⟩ | ⟨g', cap', cur', hv, _, _, h1, h2, _⟩
    · cases h0
    · cases hv; exact ⟨h1, h2⟩
  have HOW4 := Lib.hid hown4; have HB4 := Lib.hid hB4; have HCAP := Lib.hid hcap
  have hcn : (n : Int) ≤ (cap : Int) := by omega
  have hcm : (cap : Int) ≤ 9223372036854775807 := by have := hcap.2; unfold maxLen at this; omega
  clear hown4 hgr4 hB4 hcap hgh
  go_wp2_with fail
  go_ret
  exact ⟨g, cap, rfl, HCAP.out.1, HCAP.out.2, HOW4.out, HB4.out⟩
end Go.Proofs.YtjejmgdpjfdhjaaGreatDoor.same
