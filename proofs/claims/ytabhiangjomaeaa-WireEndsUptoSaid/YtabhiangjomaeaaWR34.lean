/- The law gazetteerlaw2.WireEnds: walk. -/
import Derived.Test.YtabhiangjomaeaaWR33
namespace Go.Proofs.Ytabhiangjomaeaa.wireEnds
open Go.RowKit Go.Proofs.Ytabhiangjomaeaa.kit Go.Proofs.Ytabhiangjomaeaa.timed Go.Proofs.Ytabhiangjomaeaa.nspec Go.Proofs.Ytabhiangjomaeaa.coded Go.Proofs.Ytabhiangjomaeaa.fld Go.Proofs.Ytabhiangjomaeaa.wireP Go.Proofs.Ytabhiangjomaeaa.wireM Go.Proofs.Ytabhiangjomaeaa.packP Go.Proofs.Ytabhiangjomaeaa.wpack Go.Proofs.Ytabhiangjomaeaa.rows Go.Proofs.Ytabhiangjomaeaa.shortP Go.Proofs.Ytabhiangjomaeaa.plainW Go.Proofs.Ytabhiangjomaeaa.wireShort Go.Proofs.Ytabhiangjomaeaa.putM Go.Proofs.Ytabhiangjomaeaa.unpP Go.Proofs.Ytabhiangjomaeaa.udoor Go.Proofs.Ytabhiangjomaeaa.ust Go.Proofs.Ytabhiangjomaeaa.uend Go.Proofs.Ytabhiangjomaeaa.unpackM Go.Proofs.Ytabhiangjomaeaa.roundM Go.Proofs.Ytabhiangjomaeaa.sameM Go.Proofs.Ytabhiangjomaeaa.bytesArg Go.Proofs.Ytabhiangjomaeaa.wireRounds
set_option linter.unusedVariables false

/-- Unpack, its fault alone -/
theorem unpack_code (a : Option Addr) (b : Bs) (cap : Nat) (w : World) (hi : In0 w.heap.size w a b cap) :
    Calls Try.prog 26 #[.slice a b.length cap] w fun e w' => ∃ (v : Value) (k : Int), e = .returned (.tuple #[v, .int .i64 k, .int .i64 (unpackS b).2.2]) ∧ Below w.heap.size w w' :=
  (unpack_any a b cap w hi).mono fun e w' ⟨p, h1, h2, h3⟩ => ⟨_, _, h1, h3⟩
theorem pack_twelve {m : Mg} {b : Bs} (h : packS m = (b, 0)) : 12 ≤ b.length := by
  obtain ⟨w⟩ := way_of (pack_checked h) h
  have hc := pack_checked h
  have hcl := check_len hc
  obtain ⟨⟨t0, e0⟩, i0, _, _⟩ := many_reads quesU quesP rightQ roundV.ques_reads m.qs ⟨headP m, []⟩ hcl.2.1 (inv_nil _)
  rw [← w.h0] at e0 i0
  obtain ⟨⟨t1, e1⟩, i1, _, _⟩ := many_reads recU recP rightB roundV.rec_reads m.an w.q0 hcl.2.2.1 i0
  rw [← w.h1] at e1 i1
  obtain ⟨⟨t2, e2⟩, i2, _, _⟩ := many_reads recU recP rightB roundV.rec_reads m.au w.q1 hcl.2.2.2.1 i1
  rw [← w.h2] at e2 i2
  obtain ⟨⟨t3, e3⟩, _, _, _⟩ := many_reads recU recP rightB roundV.rec_reads m.ar w.q2 hcl.2.2.2.2 i2
  rw [← w.h3] at e3
  rw [w.hb, e3, e2, e1, e0]
  simp only [List.length_append]
  have := head_len m
  omega
theorem in_take {w : World} {b0 : Nat} {a : Option Addr} {b : Bs} {cap c : Nat} (h : In0 b0 w a b cap) (hc : c ≤ b.length) : In0 b0 w a (b.take c) c :=
  ⟨h.hb, fun j x hx => h.rd j x (by rw [List.getElem?_take] at hx; split at hx; exact hx; cases hx), by rw [List.length_take]; omega, by have := h.le; have := h.cm; omega⟩
theorem own_some {base : Nat} {w : World} {a : Option Addr} {n c : Nat} {xs : List Value} (h : w.ownsRow base 5 1 (.slice a n c) n xs) (hn : 0 < n) : ∃ g, a = some ⟨g, 0, none⟩ ∧ n ≤ c ∧ c ≤ maxLen := by
  rcases h.2 with ⟨_, h2⟩ | ⟨g, cap, cur, h1, h2, h3, h4, h5, h6, h7⟩
  · omega
  · injection h1 with e1 e2 e3
    subst e3
    exact ⟨g, e1, h4, h5⟩
theorem bytes_news {w : World} {g o : Nat} {b : Bs} (h : ∀ (j : Nat) (c : UInt8), b[j]? = some c → w.cell? ⟨g, o + j, none⟩ = some (.int .u8 (c.toNat : Int))) : ∀ j u, (Lib.byteCells b)[j]? = some u → w.cell? ((⟨g, o, none⟩ : Addr).add j) = some u := by
  intro j u hu
  simp only [Lib.byteCells, List.getElem?_map, Option.map_eq_some_iff] at hu
  obtain ⟨c, hc, rfl⟩ := hu
  have hadd : (⟨g, o, none⟩ : Addr).add j = ⟨g, o + j, none⟩ := by unfold Addr.add; split <;> simp_all
  rw [hadd]; exact h j c hc
theorem bytes_one (b : Bs) : ∀ u ∈ Lib.byteCells b, u.oneCell' = true := by
  intro u hu
  simp only [Lib.byteCells, List.mem_map] at hu
  obtain ⟨c, _, rfl⟩ := hu
  rfl
theorem bytes_app (a b : Bs) : Lib.byteCells a ++ Lib.byteCells b = Lib.byteCells (a ++ b) := by simp [Lib.byteCells]
theorem bytes_len (b : Bs) : (Lib.byteCells b).length = b.length := by simp [Lib.byteCells]
theorem rd_no (w : World) : RdM w ⟨none, 0, none, 0, none, 0, none, 0⟩ noM := ⟨RdC.nil _ _ _, RdC.nil _ _ _, RdC.nil _ _ _, RdC.nil _ _ _⟩
theorem few_no : Few noM := ⟨by decide, by decide, by decide, by decide⟩
set_option maxRecDepth 100000 in
set_option maxHeartbeats 8000000 in
theorem law (p : Pl) (m : Mg) (cut : Int) (a : Option Addr) (cap : Nat) (b : Bs) (w : World) (hr : RdM w p m) (ho : OkW m) (hi : In0 w.heap.size w a b cap) (hs : b.length ≤ 1048576) :
    Calls Try.prog 11 #[.agg (cellsM p m), .int .i64 cut, .slice a b.length cap] w fun e w' => e = .returned (.bool true) ∧ Below w.heap.size w w' := by
  have hbel := (Below.refl w.heap.size w).alloc (Nat.le_refl _) (.cells (cellsM p m) 37)
  have hm0 : MsgAt (w.alloc (.cells (cellsM p m) 37)) w.heap.size p m := heap_alloc_new _ _
  have hcm : ∀ p m, cellsM p m = #[.int .i64 m.id, .bool m.rs, .int .i64 m.op, .bool m.aa, .bool m.tc, .bool m.rd, .bool m.ra, .bool m.ad, .bool m.cd, .int .i64 m.rc, .slice p.qa m.qs.length p.qc, .slice p.na m.an.length p.nc, .slice p.ua m.au.length p.uc, .slice p.ra m.ar.length p.rc] := fun p m => rfl
  rw [hcm] at hbel hm0
  rw [hcm]
  have HIN := Lib.hid hi; have HBEL := Lib.hid hbel; have HM0 := Lib.hid hm0; have HR := Lib.hid hr; have HO := Lib.hid ho
  have hle := hi.le; have hcmx := hi.cm
  unfold maxLen at hcmx
  obtain ⟨T, hT⟩ : ∃ T, b.length = T := ⟨_, rfl⟩
  have HT := Lib.hid hT
  rw [hT] at hs hle ⊢
  have CP := Lib.hid (fun (wx : World) (hB : Below w.heap.size w wx) => wpack_any p m wx (hr.below hB rfl) ho)
  obtain ⟨out, code, hpk⟩ : ∃ out code, packS m = (out, code) := ⟨_, _, rfl⟩
  simp only [hpk] at CP
  have HPK := Lib.hid hpk
  have HOL := Lib.hid (show out.length ≤ 65535 by have h := pack_len m; rw [hpk] at h; exact h)
  clear hi hbel hm0 hcm hpk hT hr ho
  go_enter Try.func11, Try.ntmps11
  go_upto_region 1 with (fail)
  obtain ⟨w0, hw0⟩ : ∃ w0, w.alloc (.cells #[.int .i64 m.id, .bool m.rs, .int .i64 m.op, .bool m.aa, .bool m.tc, .bool m.rd, .bool m.ra, .bool m.ad, .bool m.cd, .int .i64 m.rc, .slice p.qa m.qs.length p.qc, .slice p.na m.an.length p.nc, .slice p.ua m.au.length p.uc, .slice p.ra m.ar.length p.rc] 37) = w0 := ⟨_, rfl⟩
  rw [hw0] at HBEL HM0 ⊢
  clear hw0
  go_wp2_with fail
  refine (question_lit _).mono ?_
  rintro e w1 ⟨P, rfl, hq1, hB1⟩
  have CQ := Lib.hid (pack_q P w1 hq1)
  have HM1 := Lib.hid (mcells HM0.out hB1); have HB1 := Lib.hid (HBEL.out.trans (hB1.mono HBEL.out.size))
  clear hq1 hB1
  go_wp2_with fail
  refine CQ.out.mono ?_
  rintro e w2 ⟨a2, c2, rfl, _, hB2⟩
  have HM2 := Lib.hid (mcells HM1.out hB2); have HB2 := Lib.hid (HB1.out.trans (hB2.mono HB1.out.size))
  clear hB2 CQ HM1 HB1 HM0 HBEL
  have hx := HM2.out.box
  have b0 := hx.c0; have b1 := hx.c1; have b2 := hx.c2; have b3 := hx.c3; have b4 := hx.c4; have b5 := hx.c5; have b6 := hx.c6; have b7 := hx.c7; have b8 := hx.c8; have b9 := hx.c9; have b10 := hx.c10; have b11 := hx.c11; have b12 := hx.c12; have b13 := hx.c13
  clear hx
  trace "4"
  go_wp2_with fail
  refine (CP.out w2 HB2.out).mono ?_
  rintro e w6 ⟨v6, rfl, ho6, hB6⟩
  have HB6 := Lib.hid (HB2.out.trans (hB6.mono HB2.out.size))
  obtain ⟨a6, c6, rfl⟩ := buf.own_slice1 ho6
  clear b0 b1 b2 b3 b4 b5 b6 b7 b8 b9 b10 b11 b12 b13
  clear hB6 HM2 HB2 CP
  rcases pack_bad HPK.out with rfl | ⟨rfl, hcode⟩
  · have h12 := pack_twelve HPK.out
    obtain ⟨g, rfl, hnc, hcM⟩ := own_some ho6 (by omega)
    have CV := Lib.hid (unpack_lit (some ⟨g, 0, none⟩) (out.take out.length) out.length w6 (in_take (own_in ho6 rfl) (Nat.le_refl _)) m 0 0 (by rw [List.take_length]; exact unpack_pack HPK.out))
    have HI6 := Lib.hid (own_in ho6 rfl)
    rw [List.take_length] at CV
    unfold maxLen at hcM
    obtain ⟨n, hn⟩ : ∃ n, out.length = n := ⟨_, rfl⟩
    have HN := Lib.hid hn
    have hol := HOL.out
    rw [hn] at CV h12 hnc hol ⊢
    have enn : ¬ c6 = 0 := by omega
    have hns : n ≤ c6 := hnc
    clear ho6 hn
    trace "7"
    go_wp2_with fail
    refine CV.out.mono ?_
    rintro e w7 ⟨q7, rfl, _, _, hB7⟩
    have HB7 := Lib.hid (HB6.out.trans (hB7.mono HB6.out.size)); have HI7 := Lib.hid (In0.below HI6.out hB7 rfl)
    clear hB7 CV HI6 HB6
    go_upto_region 8 with fail
    have hB8 := (Below.refl w7.heap.size w7).alloc (Nat.le_refl _) (.cells #[.int .i64 m.id, .bool m.rs, .int .i64 m.op, .bool m.aa, .bool m.tc, .bool m.rd, .bool m.ra, .bool m.ad, .bool m.cd, .int .i64 m.rc, .slice q7.qa m.qs.length q7.qc, .slice q7.na m.an.length q7.nc, .slice q7.ua m.au.length q7.uc, .slice q7.ra m.ar.length q7.rc] 37)
    obtain ⟨w8, hw8⟩ : ∃ w8, w7.alloc (.cells #[.int .i64 m.id, .bool m.rs, .int .i64 m.op, .bool m.aa, .bool m.tc, .bool m.rd, .bool m.ra, .bool m.ad, .bool m.cd, .int .i64 m.rc, .slice q7.qa m.qs.length q7.qc, .slice q7.na m.an.length q7.nc, .slice q7.ua m.au.length q7.uc, .slice q7.ra m.ar.length q7.rc] 37) = w8 := ⟨_, rfl⟩
    rw [hw8] at hB8 ⊢
    have HB8 := Lib.hid (HB7.out.trans (hB8.mono HB7.out.size)); have HI8 := Lib.hid (In0.below HI7.out hB8 rfl)
    clear hB8 hw8 HI7 HB7
    by_cases hc0 : cut < 0
    · have hcd : ¬ (0 ≤ cut) := by omega
      trace "A"
      go_upto_region 14 with fail
      clear hc0 hcd
      by_cases hT0 : T = 0
      · have zt : ((T : Int) == 0) = true := by rw [hT0]; rfl
        have zt2 : (T == 0) = true := by rw [hT0]; rfl
        clear hT0
        trace "14a"
        go_wp2_with fail
        go_ret
        exact ⟨rfl, HB8.out⟩
      have zt : ((T : Int) == 0) = false := by rw [beq_eq_false_iff_ne]; omega
      have zt2 : (T == 0) = false := by rw [beq_eq_false_iff_ne]; omega
      by_cases hsum : 65535 < n + T
      · have hsi : (65535 : Int) < (n : Int) + (T : Int) := by omega
        clear hT0 hsum
        trace "14b"
        go_wp2_with fail
        go_ret
        exact ⟨rfl, HB8.out⟩
      have hsi : ¬ (65535 : Int) < (n : Int) + (T : Int) := by omega
      have hsl : (n : Int) + (T : Int) ≤ 65535 := by omega
      obtain ⟨i0, hi, hz0, hz1, hz2⟩ := info_parts bld.infoByte
      have hTp : 0 < b.length := by rw [HT.out]; omega
      obtain ⟨ct, hct, _⟩ := cur.atB_some (b := b) (k := 0) hTp
      obtain ⟨gt, ot, rfl, hgt, _⟩ := HIN.out.rd 0 ct hct
      have HRD := Lib.hid (rdB_below HIN.out.rd HB8.out)
      clear hct hTp
      trace "16"
      have n1 : (Lib.byteCells out).length = n * 1 := by rw [bytes_len, HN.out, Nat.mul_one]
      have n2 : ∀ j u, (Lib.byteCells out)[j]? = some u → w8.cell? ((⟨g, 0, none⟩ : Addr).add j) = some u := bytes_news (fun j c hj => by obtain ⟨g', o', e, _, h⟩ := HI8.out.rd j c hj; cases e; simpa using h)
      have n4 : 0 + n ≤ maxLen := by unfold maxLen; omega
      have n5 : (0 + n) * 1 ≤ 140737488355328 := by omega
      have N1 := Lib.hid n1; have N2 := Lib.hid n2; have N4 := Lib.hid n4; have N5 := Lib.hid n5
      clear n1 n2 n4 n5
      go_wp2_with (at_builtin; refine wpList_append_own _ rfl _ _ 39 rfl w8.heap.size 5 i0 (.int .u8 0) 1 1 Try.underlying39 hi hz0 hz1 hz2 rfl (by decide) (.slice none 0 0) 0 [] rfl (World.ownsRow_nil _ _ _ _) ⟨g, 0, none⟩ n c6 (Lib.byteCells out) rfl N1.out N2.out (bytes_one _) N4.out N5.out (Nat.le_refl _) ?_)
      intro v1 w9 hown9 hgr9 _
      have hB9 := below_append' (Below.refl w8.heap.size w8) (Nat.le_refl _) (World.ownsRow_nil _ w8.heap.size 5 1) hgr9
      have hown9' : w9.ownsRow w8.heap.size 5 1 v1 n (Lib.byteCells out) := by simpa using hown9
      obtain ⟨a9, c9, rfl⟩ := buf.own_slice1 hown9'
      have HRD9 := Lib.hid (rdB_below HRD.out hB9)
      have HS9 := Lib.hid hB9.size
      have HB9 := Lib.hid (HB8.out.trans (hB9.mono HB8.out.size))
      have HO9 := Lib.hid hown9'
      clear hown9 hgr9 hB9 hown9' HRD
      trace "16b"
      have n1 : (Lib.byteCells b).length = T * 1 := by rw [bytes_len, HT.out, Nat.mul_one]
      have n2 : ∀ j u, (Lib.byteCells b)[j]? = some u → w9.cell? ((⟨gt, ot, none⟩ : Addr).add j) = some u := bytes_news (fun j c hj => by obtain ⟨g', o', e, _, h⟩ := HRD9.out j c hj; cases e; exact h)
      have n4 : n + T ≤ maxLen := by unfold maxLen; omega
      have n5 : (n + T) * 1 ≤ 140737488355328 := by omega
      have M1 := Lib.hid n1; have M2 := Lib.hid n2; have M4 := Lib.hid n4; have M5 := Lib.hid n5
      clear n1 n2 n4 n5
      go_wp2_with (at_builtin; refine wpList_append_own _ rfl _ _ 39 rfl w8.heap.size 5 i0 (.int .u8 0) 1 1 Try.underlying39 hi hz0 hz1 hz2 rfl (by decide) (.slice a9 n c9) n (Lib.byteCells out) rfl HO9.out ⟨gt, ot, none⟩ T cap (Lib.byteCells b) rfl M1.out M2.out (bytes_one _) M4.out M5.out HS9.out ?_)
      intro v2 w10 hown10 hgr10 _
      have hB10 := below_append' (B := w8.heap.size) (Below.refl w8.heap.size w9) HS9.out HO9.out hgr10
      rw [bytes_app] at hown10
      have hlt : (out ++ b).length = n + T := by rw [List.length_append, HN.out, HT.out]
      obtain ⟨a10, c10, rfl⟩ := buf.own_slice1 hown10
      have hua : unpackS (out ++ b) = (noM, n, 11) := by
        have h := unpack_app HPK.out b (by omega)
        rw [if_neg (by intro e; subst e; have := HT.out; simp at this; omega), HN.out] at h; exact h
      have CX := Lib.hid (unpack_lit a10 (out ++ b) c10 w10 (own_in hown10 hlt.symm) noM n 11 hua)
      have hB10' := HB9.out.trans (hB10.mono HB8.out.size)
      have HB10 := Lib.hid hB10'
      rw [hlt] at CX
      clear hown10 hgr10 hB10 hlt hua hB10' HO9 HS9 HRD9 HB9
      trace "16c"
      go_wp2_with fail
      refine CX.out.mono ?_
      rintro e w11 ⟨q11, rfl, hq11, _, hB11⟩
      have HB11 := Lib.hid (HB10.out.trans (hB11.mono HB10.out.size)); have HQ11 := Lib.hid hq11
      have CM := Lib.hid (fun (wx : World) (hB : Below w11.heap.size w11 wx) => messages_same q11 ⟨none, 0, none, 0, none, 0, none, 0⟩ noM wx (hq11.below hB rfl) (rd_no _) few_no)
      clear hB11 hq11 CX HB10
      trace "17"
      go_upto_region 17 with fail
      have hB12 := (Below.refl w11.heap.size w11).alloc (Nat.le_refl _) (.cells #[.int .i64 noM.id, .bool noM.rs, .int .i64 noM.op, .bool noM.aa, .bool noM.tc, .bool noM.rd, .bool noM.ra, .bool noM.ad, .bool noM.cd, .int .i64 noM.rc, .slice q11.qa noM.qs.length q11.qc, .slice q11.na noM.an.length q11.nc, .slice q11.ua noM.au.length q11.uc, .slice q11.ra noM.ar.length q11.rc] 37)
      have hX12 : MsgAt (w11.alloc (.cells #[.int .i64 noM.id, .bool noM.rs, .int .i64 noM.op, .bool noM.aa, .bool noM.tc, .bool noM.rd, .bool noM.ra, .bool noM.ad, .bool noM.cd, .int .i64 noM.rc, .slice q11.qa noM.qs.length q11.qc, .slice q11.na noM.an.length q11.nc, .slice q11.ua noM.au.length q11.uc, .slice q11.ra noM.ar.length q11.rc] 37)) w11.heap.size q11 noM := heap_alloc_new _ _
      obtain ⟨w12, hw12⟩ : ∃ w12, w11.alloc (.cells #[.int .i64 noM.id, .bool noM.rs, .int .i64 noM.op, .bool noM.aa, .bool noM.tc, .bool noM.rd, .bool noM.ra, .bool noM.ad, .bool noM.cd, .int .i64 noM.rc, .slice q11.qa noM.qs.length q11.qc, .slice q11.na noM.an.length q11.nc, .slice q11.ua noM.au.length q11.uc, .slice q11.ra noM.ar.length q11.rc] 37) = w12 := ⟨_, rfl⟩
      rw [hw12] at hB12 hX12 ⊢
      have HB12 := Lib.hid (HB11.out.trans (hB12.mono HB11.out.size))
      have CM2 := Lib.hid (CM.out w12 hB12)
      have hx := hX12.box
      have b0 := hx.c0; have b1 := hx.c1; have b2 := hx.c2; have b3 := hx.c3; have b4 := hx.c4; have b5 := hx.c5; have b6 := hx.c6; have b7 := hx.c7; have b8 := hx.c8; have b9 := hx.c9; have b10 := hx.c10; have b11 := hx.c11; have b12 := hx.c12; have b13 := hx.c13
      clear hx hX12 hB12 hw12 CM
      trace "18"
      go_wp2_with fail
      refine CM2.out.mono ?_
      rintro e w13 ⟨rfl, hB13⟩
      have HB13 := Lib.hid (HB12.out.trans (hB13.mono HB12.out.size))
      clear hB13
      go_wp2_with fail
      go_ret
      exact ⟨rfl, HB13.out⟩
    by_cases hcn : (n : Int) ≤ cut
    · have hcd : 0 ≤ cut := by omega
      have hcl : ¬ cut < (n : Int) := by omega
      trace "B"
      go_upto_region 14 with fail
      clear hc0 hcd hcl hcn
      by_cases hT0 : T = 0
      · have zt : ((T : Int) == 0) = true := by rw [hT0]; rfl
        have zt2 : (T == 0) = true := by rw [hT0]; rfl
        clear hT0
        trace "14a"
        go_wp2_with fail
        go_ret
        exact ⟨rfl, HB8.out⟩
      have zt : ((T : Int) == 0) = false := by rw [beq_eq_false_iff_ne]; omega
      have zt2 : (T == 0) = false := by rw [beq_eq_false_iff_ne]; omega
      by_cases hsum : 65535 < n + T
      · have hsi : (65535 : Int) < (n : Int) + (T : Int) := by omega
        clear hT0 hsum
        trace "14b"
        go_wp2_with fail
        go_ret
        exact ⟨rfl, HB8.out⟩
      have hsi : ¬ (65535 : Int) < (n : Int) + (T : Int) := by omega
      have hsl : (n : Int) + (T : Int) ≤ 65535 := by omega
      obtain ⟨i0, hi, hz0, hz1, hz2⟩ := info_parts bld.infoByte
      have hTp : 0 < b.length := by rw [HT.out]; omega
      obtain ⟨ct, hct, _⟩ := cur.atB_some (b := b) (k := 0) hTp
      obtain ⟨gt, ot, rfl, hgt, _⟩ := HIN.out.rd 0 ct hct
      have HRD := Lib.hid (rdB_below HIN.out.rd HB8.out)
      clear hct hTp
      trace "16"
      have n1 : (Lib.byteCells out).length = n * 1 := by rw [bytes_len, HN.out, Nat.mul_one]
      have n2 : ∀ j u, (Lib.byteCells out)[j]? = some u → w8.cell? ((⟨g, 0, none⟩ : Addr).add j) = some u := bytes_news (fun j c hj => by obtain ⟨g', o', e, _, h⟩ := HI8.out.rd j c hj; cases e; simpa using h)
      have n4 : 0 + n ≤ maxLen := by unfold maxLen; omega
      have n5 : (0 + n) * 1 ≤ 140737488355328 := by omega
      have N1 := Lib.hid n1; have N2 := Lib.hid n2; have N4 := Lib.hid n4; have N5 := Lib.hid n5
      clear n1 n2 n4 n5
      go_wp2_with (at_builtin; refine wpList_append_own _ rfl _ _ 39 rfl w8.heap.size 5 i0 (.int .u8 0) 1 1 Try.underlying39 hi hz0 hz1 hz2 rfl (by decide) (.slice none 0 0) 0 [] rfl (World.ownsRow_nil _ _ _ _) ⟨g, 0, none⟩ n c6 (Lib.byteCells out) rfl N1.out N2.out (bytes_one _) N4.out N5.out (Nat.le_refl _) ?_)
      intro v1 w9 hown9 hgr9 _
      have hB9 := below_append' (Below.refl w8.heap.size w8) (Nat.le_refl _) (World.ownsRow_nil _ w8.heap.size 5 1) hgr9
      have hown9' : w9.ownsRow w8.heap.size 5 1 v1 n (Lib.byteCells out) := by simpa using hown9
      obtain ⟨a9, c9, rfl⟩ := buf.own_slice1 hown9'
      have HRD9 := Lib.hid (rdB_below HRD.out hB9)
      have HS9 := Lib.hid hB9.size
      have HB9 := Lib.hid (HB8.out.trans (hB9.mono HB8.out.size))
      have HO9 := Lib.hid hown9'
      clear hown9 hgr9 hB9 hown9' HRD
      trace "16b"
      have n1 : (Lib.byteCells b).length = T * 1 := by rw [bytes_len, HT.out, Nat.mul_one]
      have n2 : ∀ j u, (Lib.byteCells b)[j]? = some u → w9.cell? ((⟨gt, ot, none⟩ : Addr).add j) = some u := bytes_news (fun j c hj => by obtain ⟨g', o', e, _, h⟩ := HRD9.out j c hj; cases e; exact h)
      have n4 : n + T ≤ maxLen := by unfold maxLen; omega
      have n5 : (n + T) * 1 ≤ 140737488355328 := by omega
      have M1 := Lib.hid n1; have M2 := Lib.hid n2; have M4 := Lib.hid n4; have M5 := Lib.hid n5
      clear n1 n2 n4 n5
      go_wp2_with (at_builtin; refine wpList_append_own _ rfl _ _ 39 rfl w8.heap.size 5 i0 (.int .u8 0) 1 1 Try.underlying39 hi hz0 hz1 hz2 rfl (by decide) (.slice a9 n c9) n (Lib.byteCells out) rfl HO9.out ⟨gt, ot, none⟩ T cap (Lib.byteCells b) rfl M1.out M2.out (bytes_one _) M4.out M5.out HS9.out ?_)
      intro v2 w10 hown10 hgr10 _
      have hB10 := below_append' (B := w8.heap.size) (Below.refl w8.heap.size w9) HS9.out HO9.out hgr10
      rw [bytes_app] at hown10
      have hlt : (out ++ b).length = n + T := by rw [List.length_append, HN.out, HT.out]
      obtain ⟨a10, c10, rfl⟩ := buf.own_slice1 hown10
      have hua : unpackS (out ++ b) = (noM, n, 11) := by
        have h := unpack_app HPK.out b (by omega)
        rw [if_neg (by intro e; subst e; have := HT.out; simp at this; omega), HN.out] at h; exact h
      have CX := Lib.hid (unpack_lit a10 (out ++ b) c10 w10 (own_in hown10 hlt.symm) noM n 11 hua)
      have hB10' := HB9.out.trans (hB10.mono HB8.out.size)
      have HB10 := Lib.hid hB10'
      rw [hlt] at CX
      clear hown10 hgr10 hB10 hlt hua hB10' HO9 HS9 HRD9 HB9
      trace "16c"
      go_wp2_with fail
      refine CX.out.mono ?_
      rintro e w11 ⟨q11, rfl, hq11, _, hB11⟩
      have HB11 := Lib.hid (HB10.out.trans (hB11.mono HB10.out.size)); have HQ11 := Lib.hid hq11
      have CM := Lib.hid (fun (wx : World) (hB : Below w11.heap.size w11 wx) => messages_same q11 ⟨none, 0, none, 0, none, 0, none, 0⟩ noM wx (hq11.below hB rfl) (rd_no _) few_no)
      clear hB11 hq11 CX HB10
      trace "17"
      go_upto_region 17 with fail
      have hB12 := (Below.refl w11.heap.size w11).alloc (Nat.le_refl _) (.cells #[.int .i64 noM.id, .bool noM.rs, .int .i64 noM.op, .bool noM.aa, .bool noM.tc, .bool noM.rd, .bool noM.ra, .bool noM.ad, .bool noM.cd, .int .i64 noM.rc, .slice q11.qa noM.qs.length q11.qc, .slice q11.na noM.an.length q11.nc, .slice q11.ua noM.au.length q11.uc, .slice q11.ra noM.ar.length q11.rc] 37)
      have hX12 : MsgAt (w11.alloc (.cells #[.int .i64 noM.id, .bool noM.rs, .int .i64 noM.op, .bool noM.aa, .bool noM.tc, .bool noM.rd, .bool noM.ra, .bool noM.ad, .bool noM.cd, .int .i64 noM.rc, .slice q11.qa noM.qs.length q11.qc, .slice q11.na noM.an.length q11.nc, .slice q11.ua noM.au.length q11.uc, .slice q11.ra noM.ar.length q11.rc] 37)) w11.heap.size q11 noM := heap_alloc_new _ _
      obtain ⟨w12, hw12⟩ : ∃ w12, w11.alloc (.cells #[.int .i64 noM.id, .bool noM.rs, .int .i64 noM.op, .bool noM.aa, .bool noM.tc, .bool noM.rd, .bool noM.ra, .bool noM.ad, .bool noM.cd, .int .i64 noM.rc, .slice q11.qa noM.qs.length q11.qc, .slice q11.na noM.an.length q11.nc, .slice q11.ua noM.au.length q11.uc, .slice q11.ra noM.ar.length q11.rc] 37) = w12 := ⟨_, rfl⟩
      rw [hw12] at hB12 hX12 ⊢
      have HB12 := Lib.hid (HB11.out.trans (hB12.mono HB11.out.size))
      have CM2 := Lib.hid (CM.out w12 hB12)
      have hx := hX12.box
      have b0 := hx.c0; have b1 := hx.c1; have b2 := hx.c2; have b3 := hx.c3; have b4 := hx.c4; have b5 := hx.c5; have b6 := hx.c6; have b7 := hx.c7; have b8 := hx.c8; have b9 := hx.c9; have b10 := hx.c10; have b11 := hx.c11; have b12 := hx.c12; have b13 := hx.c13
      clear hx hX12 hB12 hw12 CM
      trace "18"
      go_wp2_with fail
      refine CM2.out.mono ?_
      rintro e w13 ⟨rfl, hB13⟩
      have HB13 := Lib.hid (HB12.out.trans (hB13.mono HB12.out.size))
      clear hB13
      go_wp2_with fail
      go_ret
      exact ⟨rfl, HB13.out⟩
    obtain ⟨k, rfl⟩ : ∃ k : Nat, cut = (k : Int) := ⟨cut.toNat, by omega⟩
    have hkn : k < n := by omega
    have hki : (k : Int) < (n : Int) := by omega
    have hk0 : (0 : Int) ≤ (k : Int) := by omega
    have hkl : (out.take k).length = k := by rw [List.length_take, HN.out]; omega
    have CW := Lib.hid (unpack_code (some ⟨g, 0, none⟩) (out.take k) k w8 (in_take HI8.out (by rw [HN.out]; omega)))
    rw [hkl, unpack_cut HPK.out (by rw [HN.out]; exact hkn)] at CW
    clear hkl hc0 hcn
    trace "C"
    go_wp2_with fail
    refine CW.out.mono ?_
    rintro e w9 ⟨v9, k9, rfl, hB9⟩
    have HB9 := Lib.hid (HB8.out.trans (hB9.mono HB8.out.size)); have HI9 := Lib.hid (In0.below HI8.out hB9 rfl)
    clear hB9 CW HB8 HI8 hkn hki hk0
    trace "C2"
    go_upto_region 14 with fail
    trace "C3"
    have HB8 := HB9; have HI8 := HI9
    clear HB9 HI9
    obtain ⟨w8, hw8⟩ : ∃ w8, w9 = w8 := ⟨_, rfl⟩
    rw [hw8] at HB8 HI8 ⊢
    clear hw8
    by_cases hT0 : T = 0
    · have zt : ((T : Int) == 0) = true := by rw [hT0]; rfl
      have zt2 : (T == 0) = true := by rw [hT0]; rfl
      clear hT0
      trace "14a"
      go_wp2_with fail
      go_ret
      exact ⟨rfl, HB8.out⟩
    have zt : ((T : Int) == 0) = false := by rw [beq_eq_false_iff_ne]; omega
    have zt2 : (T == 0) = false := by rw [beq_eq_false_iff_ne]; omega
    by_cases hsum : 65535 < n + T
    · have hsi : (65535 : Int) < (n : Int) + (T : Int) := by omega
      clear hT0 hsum
      trace "14b"
      go_wp2_with fail
      go_ret
      exact ⟨rfl, HB8.out⟩
    have hsi : ¬ (65535 : Int) < (n : Int) + (T : Int) := by omega
    have hsl : (n : Int) + (T : Int) ≤ 65535 := by omega
    obtain ⟨i0, hi, hz0, hz1, hz2⟩ := info_parts bld.infoByte
    have hTp : 0 < b.length := by rw [HT.out]; omega
    obtain ⟨ct, hct, _⟩ := cur.atB_some (b := b) (k := 0) hTp
    obtain ⟨gt, ot, rfl, hgt, _⟩ := HIN.out.rd 0 ct hct
    have HRD := Lib.hid (rdB_below HIN.out.rd HB8.out)
    clear hct hTp
    trace "16"
    have n1 : (Lib.byteCells out).length = n * 1 := by rw [bytes_len, HN.out, Nat.mul_one]
    have n2 : ∀ j u, (Lib.byteCells out)[j]? = some u → w8.cell? ((⟨g, 0, none⟩ : Addr).add j) = some u := bytes_news (fun j c hj => by obtain ⟨g', o', e, _, h⟩ := HI8.out.rd j c hj; cases e; simpa using h)
    have n4 : 0 + n ≤ maxLen := by unfold maxLen; omega
    have n5 : (0 + n) * 1 ≤ 140737488355328 := by omega
    have N1 := Lib.hid n1; have N2 := Lib.hid n2; have N4 := Lib.hid n4; have N5 := Lib.hid n5
    clear n1 n2 n4 n5
    go_wp2_with (at_builtin; refine wpList_append_own _ rfl _ _ 39 rfl w8.heap.size 5 i0 (.int .u8 0) 1 1 Try.underlying39 hi hz0 hz1 hz2 rfl (by decide) (.slice none 0 0) 0 [] rfl (World.ownsRow_nil _ _ _ _) ⟨g, 0, none⟩ n c6 (Lib.byteCells out) rfl N1.out N2.out (bytes_one _) N4.out N5.out (Nat.le_refl _) ?_)
    intro v1 w9 hown9 hgr9 _
    have hB9 := below_append' (Below.refl w8.heap.size w8) (Nat.le_refl _) (World.ownsRow_nil _ w8.heap.size 5 1) hgr9
    have hown9' : w9.ownsRow w8.heap.size 5 1 v1 n (Lib.byteCells out) := by simpa using hown9
    obtain ⟨a9, c9, rfl⟩ := buf.own_slice1 hown9'
    have HRD9 := Lib.hid (rdB_below HRD.out hB9)
    have HS9 := Lib.hid hB9.size
    have HB9 := Lib.hid (HB8.out.trans (hB9.mono HB8.out.size))
    have HO9 := Lib.hid hown9'
    clear hown9 hgr9 hB9 hown9' HRD
    trace "16b"
    have n1 : (Lib.byteCells b).length = T * 1 := by rw [bytes_len, HT.out, Nat.mul_one]
    have n2 : ∀ j u, (Lib.byteCells b)[j]? = some u → w9.cell? ((⟨gt, ot, none⟩ : Addr).add j) = some u := bytes_news (fun j c hj => by obtain ⟨g', o', e, _, h⟩ := HRD9.out j c hj; cases e; exact h)
    have n4 : n + T ≤ maxLen := by unfold maxLen; omega
    have n5 : (n + T) * 1 ≤ 140737488355328 := by omega
    have M1 := Lib.hid n1; have M2 := Lib.hid n2; have M4 := Lib.hid n4; have M5 := Lib.hid n5
    clear n1 n2 n4 n5
    go_wp2_with (at_builtin; refine wpList_append_own _ rfl _ _ 39 rfl w8.heap.size 5 i0 (.int .u8 0) 1 1 Try.underlying39 hi hz0 hz1 hz2 rfl (by decide) (.slice a9 n c9) n (Lib.byteCells out) rfl HO9.out ⟨gt, ot, none⟩ T cap (Lib.byteCells b) rfl M1.out M2.out (bytes_one _) M4.out M5.out HS9.out ?_)
    intro v2 w10 hown10 hgr10 _
    have hB10 := below_append' (B := w8.heap.size) (Below.refl w8.heap.size w9) HS9.out HO9.out hgr10
    rw [bytes_app] at hown10
    have hlt : (out ++ b).length = n + T := by rw [List.length_append, HN.out, HT.out]
    obtain ⟨a10, c10, rfl⟩ := buf.own_slice1 hown10
    have hua : unpackS (out ++ b) = (noM, n, 11) := by
      have h := unpack_app HPK.out b (by omega)
      rw [if_neg (by intro e; subst e; have := HT.out; simp at this; omega), HN.out] at h; exact h
    have CX := Lib.hid (unpack_lit a10 (out ++ b) c10 w10 (own_in hown10 hlt.symm) noM n 11 hua)
    have hB10' := HB9.out.trans (hB10.mono HB8.out.size)
    have HB10 := Lib.hid hB10'
    rw [hlt] at CX
    clear hown10 hgr10 hB10 hlt hua hB10' HO9 HS9 HRD9 HB9
    trace "16c"
    go_wp2_with fail
    refine CX.out.mono ?_
    rintro e w11 ⟨q11, rfl, hq11, _, hB11⟩
    have HB11 := Lib.hid (HB10.out.trans (hB11.mono HB10.out.size)); have HQ11 := Lib.hid hq11
    have CM := Lib.hid (fun (wx : World) (hB : Below w11.heap.size w11 wx) => messages_same q11 ⟨none, 0, none, 0, none, 0, none, 0⟩ noM wx (hq11.below hB rfl) (rd_no _) few_no)
    clear hB11 hq11 CX HB10
    trace "17"
    go_upto_region 17 with fail
    have hB12 := (Below.refl w11.heap.size w11).alloc (Nat.le_refl _) (.cells #[.int .i64 noM.id, .bool noM.rs, .int .i64 noM.op, .bool noM.aa, .bool noM.tc, .bool noM.rd, .bool noM.ra, .bool noM.ad, .bool noM.cd, .int .i64 noM.rc, .slice q11.qa noM.qs.length q11.qc, .slice q11.na noM.an.length q11.nc, .slice q11.ua noM.au.length q11.uc, .slice q11.ra noM.ar.length q11.rc] 37)
    have hX12 : MsgAt (w11.alloc (.cells #[.int .i64 noM.id, .bool noM.rs, .int .i64 noM.op, .bool noM.aa, .bool noM.tc, .bool noM.rd, .bool noM.ra, .bool noM.ad, .bool noM.cd, .int .i64 noM.rc, .slice q11.qa noM.qs.length q11.qc, .slice q11.na noM.an.length q11.nc, .slice q11.ua noM.au.length q11.uc, .slice q11.ra noM.ar.length q11.rc] 37)) w11.heap.size q11 noM := heap_alloc_new _ _
    obtain ⟨w12, hw12⟩ : ∃ w12, w11.alloc (.cells #[.int .i64 noM.id, .bool noM.rs, .int .i64 noM.op, .bool noM.aa, .bool noM.tc, .bool noM.rd, .bool noM.ra, .bool noM.ad, .bool noM.cd, .int .i64 noM.rc, .slice q11.qa noM.qs.length q11.qc, .slice q11.na noM.an.length q11.nc, .slice q11.ua noM.au.length q11.uc, .slice q11.ra noM.ar.length q11.rc] 37) = w12 := ⟨_, rfl⟩
    rw [hw12] at hB12 hX12 ⊢
    have HB12 := Lib.hid (HB11.out.trans (hB12.mono HB11.out.size))
    have CM2 := Lib.hid (CM.out w12 hB12)
    have hx := hX12.box
    have b0 := hx.c0; have b1 := hx.c1; have b2 := hx.c2; have b3 := hx.c3; have b4 := hx.c4; have b5 := hx.c5; have b6 := hx.c6; have b7 := hx.c7; have b8 := hx.c8; have b9 := hx.c9; have b10 := hx.c10; have b11 := hx.c11; have b12 := hx.c12; have b13 := hx.c13
    clear hx hX12 hB12 hw12 CM
    trace "18"
    go_wp2_with fail
    refine CM2.out.mono ?_
    rintro e w13 ⟨rfl, hB13⟩
    have HB13 := Lib.hid (HB12.out.trans (hB13.mono HB12.out.size))
    clear hB13
    go_wp2_with fail
    go_ret
    exact ⟨rfl, HB13.out⟩
  · trace "6"
    have ec : (code == 0) = false := by rcases hcode with ⟨rfl, _⟩ | ⟨rfl, _⟩ <;> rfl
    clear hcode ho6
    go_wp2_with fail
    go_ret
    exact ⟨rfl, HB6.out⟩
theorem lawI (p : Pl) (m : Mg) (cut : Int) (a : Option Addr) (cap : Nat) (b : Bs) (w : World) {k : Nat} (hm : msgArg.InM w p m k) (hk : k ≤ 1048576) (hw : (Lit.int .i64 cut).wf = true) (hi : In0 w.heap.size w a b cap) (hs : b.length ≤ 1048576) (hn : a = none → b.length = 0 ∧ cap = 0) :
    Calls Try.prog 11 #[.agg (cellsM p m), .int .i64 cut, .slice a b.length cap] w fun e w' => e = .returned (.bool true) ∧ Below w.heap.size w w' := law p m cut a cap b w hm.rd hm.w hi hs
end Go.Proofs.Ytabhiangjomaeaa.wireEnds
